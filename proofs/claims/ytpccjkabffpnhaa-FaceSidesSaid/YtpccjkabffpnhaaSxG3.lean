/- Every operation of the evaluator is sound. A region's operations, one behind the other. An operation of the evaluator looks at its footprint alone, and turns no more. Every operation is local; two that are apart go in either order. A region whose order is drawn: in every order that may be drawn it comes to the same. The orders that may be drawn. What is kept behind a region still says what is so. A block that nobody else names, turned; what is carried along; marks. What stays named, named by two lists; rooms behind. The evaluator's limit: what a piece of code comes to with enough rounds; its equations. What the evaluator takes a piece of code for, the code does. -/
import Derived.RangeFuncIn
import Derived.RangeFuncRecord
import Derived.RangeFuncLeaves
import Derived.RangeFuncCalls
import Derived.Scope
import Derived.Test.YtpccjkabffpnhaaSxG1
import Derived.Test.YtpccjkabffpnhaaSxG2
namespace Go.Proofs.Ytpccjkabffpnhaa.Sx
open Go Go.RowKit
def Sl.le (n : Sl) (N : Rm) : Prop := n.n ≤ N.n ∧ (∀ d, n.may d = true → N.may d) ∧ ∀ d, n.pr.contains d = true → N.K d = true

section
variable {P : Program} {C : Cs} {N : Rm} {w0 : World} {ok0 : Nat → Prop} {ok : Nat → Prop} {a : Act} {w w' : World} {st st' : St} {ρ : Rho}
  {next : Act → World → Prop} {Q : Exit → Act → World → Prop} {o : Oper} {rd : Option Nat} {lo : Nat}

theorem arr_of {α : Type} {xs : Array α} {l : List α} (h : xs.toList = l) : xs = l.toArray := by rw [← h]

theorem plainTy_ok {t : TypeId} {n : Nat} (h : plainTy P t n = true) : (∃ k, P.underlying t = some k) ∧ (isAggB P t = false → n = 1) := by
  simp only [plainTy, Bool.and_eq_true, Bool.or_eq_true, beq_iff_eq] at h
  refine ⟨Option.isSome_iff_exists.1 h.1, fun e => ?_⟩
  rcases h.2 with h | h
  · rw [e] at h; cases h
  · exact h

theorem slice_or_string {t : TypeId} (h : sliceOrString P t = true) : (∃ e', P.underlying t = some (.slice e')) ∨ P.underlying t = some .string := by
  unfold sliceOrString at h
  split at h
  · exact .inl ⟨_, by assumption⟩
  · exact .inr (by assumption)
  · cases h

theorem int_ty {t : TypeId} (h : intTy P t = true) : ∃ k, P.underlying t = some (.int k) := by
  unfold intTy at h
  split at h
  · exact ⟨_, by assumption⟩
  · cases h
theorem cNilBin_ok (g : Gam N w0 ok0 st ok ρ a w) {d : Nat} (hd : o.dst = some d) (hN : N.may d) {op : BinOp} {t u : TypeId} {x y : Operand} {ptr : Bool} (ho : o.op = .binOp op t x y u) (hy : isNilC P t y = some ptr) {i : IOp} (hc : cNilBin P d op t ptr x = some i)
    (he : evOp C lo st i = some st') (hn : Into N w0 ok0 st' next) : i.dst = some d ∧ o.wpIn (FR rd) 0 P a w next Q := by
  unfold cNilBin at hc
  split at hc
  · rename_i hx
    obtain rfl := Option.some.inj hc
    exact ⟨rfl, op_isnil g hd hN (neg := false) ho hx hy he hn⟩
  · rename_i hx
    obtain rfl := Option.some.inj hc
    exact ⟨rfl, op_isnil g hd hN (neg := true) ho hx hy he hn⟩
  · cases hc
theorem cBin_ok (g : Gam N w0 ok0 st ok ρ a w) {d : Nat} (hd : o.dst = some d) (hN : N.may d) {op : BinOp} {t u : TypeId} {x y : Operand} (ho : o.op = .binOp op t x y u) {i : IOp} (hc : cBin P d op t x y u = some i)
    (he : evOp C lo st i = some st') (hn : Into N w0 ok0 st' next) : i.dst = some d ∧ o.wpIn (FR rd) 0 P a w next Q := by
  unfold cBin at hc
  split at hc
  · rename_i fs hu
    split at hc
    · cases hc
    · rename_i hg
      have hg' : P.eqGuardType P.depth t = false := by simpa using hg
      split at hc
      · rename_i ks a' b' hk hx hy
        obtain rfl := Option.some.inj hc
        exact ⟨rfl, op_eqs g hd hN ho (neg := false) rfl hx hy hu hk hg' he hn⟩
      · rename_i ks a' b' hk hx hy
        obtain rfl := Option.some.inj hc
        exact ⟨rfl, op_eqs g hd hN ho (neg := true) rfl hx hy hu hk hg' he hn⟩
      · cases hc
  · split at hc
    · rename_i hx hy
      obtain rfl := Option.some.inj hc
      exact ⟨rfl, op_bin g hd hN ho hx hy (by simp) he hn⟩
    · cases hc
  · rename_i hu
    split at hc
    · rename_i hx hy
      obtain rfl := Option.some.inj hc
      exact ⟨rfl, op_bin g hd hN ho hx hy (fun _ => hu) he hn⟩
    · cases hc
  · split at hc
    · rename_i hx hy
      obtain rfl := Option.some.inj hc
      exact ⟨rfl, op_bin g hd hN ho hx hy (by simp) he hn⟩
    · cases hc
  · cases hc

theorem cCall_ok (hC : GoodAt P C N lo) (g : Gam N w0 ok0 st ok ρ a w) {d : Nat} (hd : o.dst = some d) (hN : N.may d) {c : Call} {ty : TypeId} (ho : o.op = .call c) {i : IOp} (hc : cCall P d ty c = some i)
    (he : evOp C lo st i = some st') (hn : Into N w0 ok0 st' next) : i.dst = some d ∧ o.wpIn (FR rd) 0 P a w next Q := by
  obtain ⟨callee, args, argTypes⟩ := c
  unfold cCall at hc
  simp only at hc
  split at hc
  · rename_i x t h1 h2
    have h1 := arr_of h1
    have h2 := arr_of h2
    subst h1 h2
    split at hc
    · rename_i hu hx
      obtain rfl := Option.some.inj hc
      exact ⟨rfl, op_len g hd hN ho hx (z := false) (by simp) (fun _ => ⟨_, hu⟩) he hn⟩
    · rename_i hu hx
      obtain rfl := Option.some.inj hc
      exact ⟨rfl, op_len g hd hN ho hx (z := true) (fun _ => hu) (by simp) he hn⟩
    · rename_i hu hx
      obtain rfl := Option.some.inj hc
      exact ⟨rfl, op_mlen g hd hN ho hx hu he hn⟩
    · cases hc
  · rename_i x t h1 h2
    have h1 := arr_of h1
    have h2 := arr_of h2
    subst h1 h2
    split at hc
    · rename_i hu hx
      obtain rfl := Option.some.inj hc
      exact ⟨rfl, op_cap g hd hN ho hx hu he hn⟩
    · cases hc
  · rename_i x y t u h1 h2
    have h1 := arr_of h1
    have h2 := arr_of h2
    subst h1 h2
    split at hc
    · rename_i e ht
      split at hc
      · rename_i i z a' b' hi hz hx hy
        split at hc
        · rename_i hh
          split at hc
          · rename_i hs
            obtain rfl := Option.some.inj hc
            exact ⟨rfl, op_append g hd hN ho hx hy ht (slice_or_string hs) hi hz hh.1 hh.2.1 hh.2.2 he hn⟩
          · split at hc
            · rename_i hs
              obtain rfl := Option.some.inj hc
              obtain ⟨k, hk⟩ := int_ty hs
              exact ⟨rfl, op_appz g hd hN ho hx hy ht hk hi hz hh.1 hh.2.1 hh.2.2 he hn⟩
            · cases hc
        · cases hc
      · cases hc
    · cases hc
  · rename_i x y t u h1 h2
    have h1 := arr_of h1
    have h2 := arr_of h2
    subst h1 h2
    split at hc
    · rename_i e ht
      split at hc
      · rename_i n a' b' hs hx hy
        obtain rfl := Option.some.inj hc
        exact ⟨rfl, op_copy g hd hN ho hx hy ht hs he hn⟩
      · cases hc
    · cases hc
  · rename_i h1 h2
    cases hx : cXs P argTypes.toList args.toList with
    | none => rw [hx] at hc; cases hc
    | some ys =>
      rw [hx] at hc
      obtain rfl := Option.some.inj hc
      exact ⟨rfl, op_mn g hd hN ho hx he hn⟩
  · cases hx : cXs P argTypes.toList args.toList with
    | none => rw [hx] at hc; cases hc
    | some ys =>
      rw [hx] at hc
      obtain rfl := Option.some.inj hc
      exact ⟨rfl, op_mx g hd hN ho hx he hn⟩
  · split at hc
    · rename_i hx hxs
      obtain rfl := Option.some.inj hc
      exact ⟨rfl, op_call hC.1 g hd hN ho hx hxs he hn⟩
    · cases hc
  · cases hc

theorem cOp_ok (hC : GoodAt P C N lo) (g : Gam N w0 ok0 st ok ρ a w) {d : Nat} (hd : o.dst = some d) (hN : N.may d) {ty : TypeId} {i : IOp} (hc : cOp P d ty o.op = some i)
    (he : evOp C lo st i = some st') (hn : Into N w0 ok0 st' next) : i.dst = some d ∧ o.wpIn (FR rd) 0 P a w next Q := by
  cases ho : o.op with
  | move x =>
    rw [ho] at hc
    simp only [cOp, Option.map_eq_some_iff] at hc
    obtain ⟨y, hy, rfl⟩ := hc
    simp only [evOp, Option.some.injEq] at he
    subst he
    exact ⟨rfl, op_mv g hd hN (.inl ho) hy hn⟩
  | assign x =>
    rw [ho] at hc
    simp only [cOp, Option.map_eq_some_iff] at hc
    obtain ⟨y, hy, rfl⟩ := hc
    simp only [evOp, Option.some.injEq] at he
    subst he
    exact ⟨rfl, op_mv g hd hN (.inr ho) hy hn⟩
  | pick c x y =>
    rw [ho] at hc
    simp only [cOp] at hc
    split at hc
    · rename_i h1 h2 h3
      obtain rfl := Option.some.inj hc
      exact ⟨rfl, op_pick g hd hN ho h1 h2 h3 he hn⟩
    · cases hc
  | alloc e =>
    rw [ho] at hc
    simp only [cOp] at hc
    split at hc
    · rename_i zs hz
      obtain rfl := Option.some.inj hc
      exact ⟨rfl, op_alloc g hd hN ho hz he hn⟩
    · split at hc
      · rename_i hz
        obtain rfl := Option.some.inj hc
        exact ⟨rfl, op_allocM g hd hN ho hz he hn⟩
      · cases hc
  | box e x =>
    rw [ho] at hc
    simp only [cOp] at hc
    split at hc
    · rename_i h1 h2
      obtain rfl := Option.some.inj hc
      exact ⟨rfl, op_box g hd hN ho h2 he hn⟩
    · cases hc
  | build t parts =>
    rw [ho] at hc
    simp only [cOp] at hc
    split at hc
    · rename_i fs zs hu hz
      split at hc
      · rename_i pl hp
        split at hc
        · rename_i ps hps
          obtain rfl := Option.some.inj hc
          exact ⟨rfl, op_build g hd hN ho hz (.inl ⟨fs, pl, hu, hp, hps⟩) he hn⟩
        · cases hc
      · cases hc
    · rename_i k e zs hu hz
      split at hc
      · rename_i n hs
        split at hc
        · rename_i ps hps
          obtain rfl := Option.some.inj hc
          exact ⟨rfl, op_build g hd hN ho hz (.inr ⟨k, e, n, hu, hs, hps⟩) he hn⟩
        · cases hc
      · cases hc
    · cases hc
  | buildSlice t len parts =>
    rw [ho] at hc
    simp only [cOp] at hc
    split at hc
    · rename_i e hu
      split at hc
      · rename_i n rs zs hs hr hz
        split at hc
        · rename_i hh
          obtain rfl := Option.some.inj hc
          exact ⟨rfl, op_bslice g hd hN ho hr hu hs hz hh.1 hh.2.1 hh.2.2 he hn⟩
        · cases hc
      · cases hc
    · cases hc
  | load t x =>
    rw [ho] at hc
    simp only [cOp] at hc
    split at hc
    · rename_i n y hs hy
      split at hc
      · rename_i hp
        obtain rfl := Option.some.inj hc
        have h := plainTy_ok hp
        exact ⟨rfl, op_load g hd hN ho hy hs h.1 h.2 he hn⟩
      · cases hc
    · cases hc
  | nilCheck x =>
    rw [ho] at hc
    simp only [cOp, Option.map_eq_some_iff] at hc
    obtain ⟨y, hy, rfl⟩ := hc
    exact ⟨rfl, op_nchk g hd hN ho hy he hn⟩
  | binOp op t x y u =>
    rw [ho] at hc
    simp only [cOp] at hc
    split at hc
    · rename_i hy
      exact cNilBin_ok g hd hN ho hy hc he hn
    · exact cBin_ok g hd hN ho hc he hn
  | unOp op t x =>
    rw [ho] at hc
    simp only [cOp, Option.map_eq_some_iff] at hc
    obtain ⟨y, hy, rfl⟩ := hc
    exact ⟨rfl, op_un g hd hN ho hy he hn⟩
  | convert src dst x =>
    rw [ho] at hc
    simp only [cOp] at hc
    split at hc
    · rename_i h1 h2 h3
      obtain rfl := Option.some.inj hc
      exact ⟨rfl, op_conv g hd hN ho h3 h1 h2 he hn⟩
    · rename_i e y h1 h2 h3
      split at hc
      · rename_i h4
        obtain rfl := Option.some.inj hc
        exact ⟨rfl, op_b2s g hd hN ho h3 h1 h4 h2 he hn⟩
      · cases hc
    · cases hc
  | slice t x l h m =>
    rw [ho] at hc
    simp only [cOp] at hc
    split at hc
    · rename_i e hu
      split at hc
      · rename_i n y l' h' m' hs hx hl hh hm
        split at hc
        · cases hc
        · rename_i hne
          obtain rfl := Option.some.inj hc
          refine ⟨rfl, op_slice g hd hN ho hx hl hh hm hu hs (fun h1 h2 => ?_) he hn⟩
          subst h2
          cases m with
          | none => exact h1 rfl
          | some m => exact hne rfl
      · cases hc
    · cases hc
  | fieldAddr t x f =>
    rw [ho] at hc
    simp only [cOp] at hc
    split at hc
    · rename_i fs y hu hx
      split at hc
      · rename_i fd hf
        split at hc
        · rename_i n hs
          obtain rfl := Option.some.inj hc
          exact ⟨rfl, op_faddr g hd hN ho hx hu hf hs he hn⟩
        · cases hc
      · cases hc
    · cases hc
  | field t x f =>
    rw [ho] at hc
    simp only [cOp] at hc
    split at hc
    · rename_i fs y hu hx
      split at hc
      · rename_i fd hf
        split at hc
        · rename_i n hs
          split at hc
          · rename_i hp
            obtain rfl := Option.some.inj hc
            have h := plainTy_ok hp
            exact ⟨rfl, op_fld g hd hN ho hx hu hf hs h.1 h.2 he hn⟩
          · cases hc
        · cases hc
      · cases hc
    · cases hc
  | indexAddr t x j =>
    rw [ho] at hc
    simp only [cOp] at hc
    split at hc
    · rename_i e hu
      split at hc
      · rename_i n y j' hs hx hi
        obtain rfl := Option.some.inj hc
        exact ⟨rfl, op_iaddr g hd hN ho hx hi hu hs he hn⟩
      · cases hc
    · rename_i k e hu
      split at hc
      · rename_i n y j' hs hx hi
        obtain rfl := Option.some.inj hc
        exact ⟨rfl, op_aaddr g hd hN ho hx hi hu hs he hn⟩
      · cases hc
    · cases hc
  | index t x j =>
    rw [ho] at hc
    simp only [cOp] at hc
    split at hc
    · rename_i k e hu
      split at hc
      · rename_i n y j' hs hx hi
        split at hc
        · rename_i hp
          obtain rfl := Option.some.inj hc
          have h := plainTy_ok hp
          exact ⟨rfl, op_ixa g hd hN ho hx hi hu hs h.1 h.2 he hn⟩
        · cases hc
      · cases hc
    · rename_i hu
      split at hc
      · rename_i hx hi
        obtain rfl := Option.some.inj hc
        exact ⟨rfl, op_ixs g hd hN ho hx hi hu he hn⟩
      · cases hc
    · cases hc
  | extract x j =>
    rw [ho] at hc
    simp only [cOp, Option.map_eq_some_iff] at hc
    obtain ⟨y, hy, rfl⟩ := hc
    exact ⟨rfl, op_ext g hd hN ho hy he hn⟩
  | makeFunc fn first caps =>
    rw [ho] at hc
    cases fn with
    | func f =>
      simp only [cOp] at hc
      split at hc
      · rename_i hf
        obtain rfl := Array.isEmpty_iff.1 hf
        simp only [Option.map_eq_some_iff] at hc
        obtain ⟨cs, hcs, rfl⟩ := hc
        simp only [evOp, Option.some.injEq] at he
        subst he
        exact ⟨rfl, op_mkfn g hd hN ho hcs hn⟩
      · cases hc
    | _ => simp only [cOp] at hc; cases hc
  | makeSlice t l c =>
    rw [ho] at hc
    simp only [cOp] at hc
    split at hc
    · rename_i e hu
      split at hc
      · rename_i i z x y hi hz hx hy
        split at hc
        · rename_i hh
          obtain rfl := Option.some.inj hc
          exact ⟨rfl, op_mkslice g hd hN ho hx hy hu hi hz hh.1 hh.2.1 hh.2.2 he hn⟩
        · cases hc
      · cases hc
    · cases hc
  | call c =>
    rw [ho] at hc
    exact cCall_ok hC g hd hN ho hc he hn
  | makeMap t r =>
    rw [ho] at hc
    cases r with
    | none =>
      simp only [cOp] at hc
      split at hc
      · obtain rfl := Option.some.inj hc
        exact ⟨rfl, op_mkmap g hd hN ho he hn⟩
      · cases hc
    | some r => simp only [cOp] at hc; cases hc
  | lookup t x j cok =>
    rw [ho] at hc
    simp only [cOp] at hc
    split at hc
    · rename_i k e ht
      split at hc
      · rename_i ks zs y j' hk hz hx hj
        split at hc
        · rename_i hp
          simp only [Bool.and_eq_true] at hp
          obtain rfl := Option.some.inj hc
          exact ⟨rfl, op_mget g hd hN ho hx hj ht hk hz hp.1 hp.2 he hn⟩
        · cases hc
      · cases hc
    · cases hc
  | _ => rw [ho] at hc; simp only [cOp] at hc; cases hc

theorem cOp_call {P : Program} {d d' : Nat} {ty : TypeId} {op : Op} {f : X} {args : List X} (hc : cOp P d ty op = some (.call d' f args)) :
    d' = d ∧ ∃ x xs ts us t1, op = .call { callee := .value x, args := xs, argTypes := ts } ∧ cX P t1 x = some f ∧ cXs P us xs.toList = some args := by
  by_cases hcall : ∃ c, op = .call c
  · obtain ⟨c, rfl⟩ := hcall
    obtain ⟨callee, xs, ts⟩ := c
    simp only [cOp] at hc
    unfold cCall at hc
    repeat' split at hc
    all_goals first
      | (cases hc; done)
      | (simp only [Option.map_eq_some_iff] at hc; obtain ⟨y, _, h⟩ := hc; cases h; done)
      | skip
    rename_i h1 _ _ _ _ hx hxs
    simp only [Option.some.injEq, IOp.call.injEq] at hc
    obtain ⟨rfl, rfl, rfl⟩ := hc
    simp only at h1
    subst h1
    exact ⟨rfl, _, _, _, _, _, rfl, hx, hxs⟩
  · unfold cOp at hc
    split at hc
    all_goals first
      | (exact absurd ⟨_, rfl⟩ hcall)
      | (cases hc; done)
      | (simp only [Option.map_eq_some_iff] at hc; obtain ⟨y, _, h⟩ := hc; cases h; done)
      | skip
    all_goals repeat' split at hc
    all_goals first
      | (cases hc; done)
      | (simp only [Option.map_eq_some_iff] at hc; obtain ⟨y, _, h⟩ := hc; cases h; done)
      | skip
    all_goals first
      | (unfold cNilBin at hc; repeat' split at hc) <;> (cases hc; done)
      | (unfold cBin at hc; repeat' split at hc) <;> (cases hc; done)
theorem opd_ok (hC : GoodAt P C N lo) (g : Gam N w0 ok0 st ok ρ a w) {n : Sl} (hnN : n.le N) {i : IOp} (hc : cOpd P n o = some i)
    (he : evOp C lo st i = some st') (hn : Into N w0 ok0 st' next) : o.wpIn (FR rd) 0 P a w next Q := by
  unfold cOpd at hc
  split at hc
  · rename_i d hd
    split at hc
    · rename_i hlt
      simp only [Option.map_eq_some_iff] at hc
      obtain ⟨i0, hc, rfl⟩ := hc
      by_cases hin : ∃ a f args, i0 = .call a f args ∧ n.io.contains d = true
      · obtain ⟨a', f, args, rfl, hio⟩ := hin
        simp only [toIn, hio, if_true] at he
        obtain ⟨rfl, x, xs, ts, us, t1, ho, hx, hxs⟩ := cOp_call hc
        exact op_icall hC g hd (hnN.2.1 _ hlt) ho hx hxs he hn
      · have e : toIn n.io d i0 = i0 := by
          cases i0 with
          | call a f args =>
            simp only [toIn]
            rw [if_neg]
            intro h
            exact hin ⟨a, f, args, rfl, h⟩
          | _ => rfl
        rw [e] at he
        exact (cOp_ok hC g hd (hnN.2.1 _ hlt) hc he hn).2
    · cases hc
  · rename_i hd
    split at hc
    · rename_i t x y ho
      split at hc
      · rename_i m p v hs hp hv
        obtain rfl := Option.some.inj hc
        exact op_store g hd ho hp hv hs he hn
      · cases hc
    · rename_i t x y z ho
      split at hc
      · rename_i k e ht
        split at hc
        · rename_i ks n x' y' z' hk hs hx hy hz
          split at hc
          · rename_i hp
            obtain rfl := Option.some.inj hc
            exact op_mupd g hd ho hx hy hz ht hk hp he hn
          · cases hc
        · cases hc
      · cases hc
    · rename_i c ho
      obtain ⟨callee, args, argTypes⟩ := c
      unfold cDel at hc
      simp only at hc
      split at hc
      · rename_i x y t u h1 h2
        have h1 := arr_of h1
        have h2 := arr_of h2
        subst h1 h2
        split at hc
        · rename_i k e ht
          split at hc
          · rename_i ks a' b' hk hx hy
            obtain rfl := Option.some.inj hc
            exact op_mdel g hd ho hx hy ht hk he hn
          · cases hc
        · cases hc
      · cases hc
    · cases hc
end

/-! ### where an operation's value goes -/
theorem cBin_dst {P : Program} {d : Nat} {op : BinOp} {t u : TypeId} {x y : Operand} {i : IOp} (hc : cBin P d op t x y u = some i) : i.dst = some d := by
  unfold cBin at hc
  repeat' split at hc
  all_goals first | (cases hc; done) | (obtain rfl := Option.some.inj hc; rfl)
theorem cNilBin_dst {P : Program} {d : Nat} {op : BinOp} {t : TypeId} {x : Operand} {ptr : Bool} {i : IOp} (hc : cNilBin P d op t ptr x = some i) : i.dst = some d := by
  unfold cNilBin at hc
  repeat' split at hc
  all_goals first | (cases hc; done) | (obtain rfl := Option.some.inj hc; rfl)
theorem cCall_dst {P : Program} {d : Nat} {ty : TypeId} {c : Call} {i : IOp} (hc : cCall P d ty c = some i) : i.dst = some d := by
  unfold cCall at hc
  repeat' split at hc
  all_goals first | (cases hc; done) | (obtain rfl := Option.some.inj hc; rfl) | (simp only [Option.map_eq_some_iff] at hc; obtain ⟨y, hy, rfl⟩ := hc; rfl)
theorem cOp_dst {P : Program} {d : Nat} {ty : TypeId} {op : Op} {i : IOp} (hc : cOp P d ty op = some i) : i.dst = some d := by
  unfold cOp at hc
  split at hc
  case h_10 =>
    split at hc
    · exact cNilBin_dst hc
    · exact cBin_dst hc
  case h_21 => exact cCall_dst hc
  all_goals
    repeat' split at hc
    all_goals first | (cases hc; done) | (obtain rfl := Option.some.inj hc; rfl) | (simp only [Option.map_eq_some_iff] at hc; obtain ⟨y, hy, rfl⟩ := hc; rfl)
theorem cOpd_dst {P : Program} {n : Sl} {o : Oper} {i : IOp} (hc : cOpd P n o = some i) : i.dst = o.dst := by
  unfold cOpd at hc
  split at hc
  · rename_i d hd
    rw [hd]
    split at hc
    · simp only [Option.map_eq_some_iff] at hc
      obtain ⟨i0, hc, rfl⟩ := hc
      rw [← cOp_dst hc]
      cases i0 with
      | call a f args => simp only [toIn]; split <;> rfl
      | _ => rfl
    · cases hc
  · rename_i hd
    rw [hd]
    unfold cDel at hc
    repeat' split at hc
    all_goals first | (cases hc; done) | (obtain rfl := Option.some.inj hc; rfl)
theorem cOpd_lt {P : Program} {n : Sl} {o : Oper} {i : IOp} {d : Nat} (hc : cOpd P n o = some i) (hd : o.dst = some d) : n.may d = true := by
  unfold cOpd at hc
  rw [hd] at hc
  simp only at hc
  split at hc
  · assumption
  · cases hc
end Go.Proofs.Ytpccjkabffpnhaa.Sx
namespace Go.Proofs.Ytpccjkabffpnhaa.Sx
open Go Go.RowKit

/-- operations in the order of a list of their numbers -/
def evIdx (C : Cs) (lo : Nat) (ios : List IOper) : List Nat → St → Option St
  | [], st => some st
  | i :: s, st => match ios[i]? with
    | none => evIdx C lo ios s st
    | some o => match evOper C lo st o with
      | some st' => evIdx C lo ios s st'
      | none => none

section
variable {P : Program} {C : Cs} {N : Rm} {w0 : World} {ok0 : Nat → Prop} {ok : Nat → Prop} {a : Act} {w w' : World} {st st' : St} {ρ : Rho}
  {next : Act → World → Prop} {Q : Exit → Act → World → Prop} {o : Oper} {rd : Option Nat} {lo : Nat} {ops : Array Oper} {n : Sl}

theorem tmp_of (g : Gam N w0 ok0 st ok ρ a w) {d : Nat} (hd : d < N.n) : ∃ v, a.tmps[d]? = some v ∧ LRep w ok ρ st.hp (st.env d) v := by
  have hlt : d < a.tmps.size := by rw [g.size]; exact hd
  refine ⟨a.tmps[d], by simp [hlt], ?_⟩
  have h := g.env d
  rwa [show a.tmps.getD d undef = a.tmps[d] by simp [Array.getD_eq_getD_getElem?, hlt]] at h

theorem skip_ok (g : Gam N w0 ok0 st ok ρ a w) {d : Option Nat} (hd : ∀ k, d = some k → N.may k) (he : skipK st d = some st') (hn : Into N w0 ok0 st' next) : next (a.put d undef) w := by
  cases d with
  | none =>
    obtain rfl := Option.some.inj he
    exact hn _ _ _ _ g
  | some k =>
    obtain rfl := Option.some.inj he
    exact hn _ _ _ _ (g.put (hd k rfl) (by simp only [LRep]; exact ⟨#[], rfl, by simp only [LReps]⟩))

theorem oper_ok (hC : GoodAt P C N lo) (g : Gam N w0 ok0 st ok ρ a w) (hnN : n.le N) (he : evOper C lo st (cOper P n ops o) = some st') (hn : Into N w0 ok0 st' next) :
    if Region.wanted o (yielded ops a.tmps) then o.wpIn (FR rd) 0 P a w next Q else (∀ f, o.about P w a.eval = some f → (FR rd).fn f) ∧ next (a.put o.dst undef) w := by
  unfold cOper at he
  split at he
  · rename_i i gd hc hg
    unfold cGuard at hg
    split at hg
    · rename_i hog
      obtain rfl := Option.some.inj hg
      simp only [Region.wanted, hog, if_true]
      exact opd_ok hC g hnN hc he hn
    · rename_i j b hog
      split at hg
      · rename_i d hd
        obtain rfl := Option.some.inj hg
        have hdn : d < n.n ∧ ∃ p, ops[j]? = some p ∧ p.dst = some d := by
          unfold dstOf at hd
          split at hd
          · rename_i p hp
            split at hd
            · rename_i d' hpd
              split at hd
              · rename_i hlt
                obtain rfl := Option.some.inj hd
                exact ⟨hlt, p, hp, hpd⟩
              · cases hd
            · cases hd
          · cases hd
        obtain ⟨hlt, p, hp, hpd⟩ := hdn
        obtain ⟨v, hv, hr⟩ := tmp_of g (Nat.lt_of_lt_of_le hlt hnN.1)
        have hy : yielded ops a.tmps j = (match v with | .bool b => some b | _ => none) := by
          simp only [yielded, hp, Option.bind_some, hpd, hv]
          cases v <;> rfl
        have hskip : skipK st i.dst = some st' → next (a.put o.dst undef) w := fun h => by
          rw [cOpd_dst hc] at h
          exact skip_ok g (fun k hk => hnN.2.1 _ (cOpd_lt hc hk)) h hn
        simp only [evOper] at he
        unfold guardK at he
        split at he
        · rename_i b' hb
          rw [hb] at hr
          simp only [LRep, TRep] at hr
          subst hr
          simp only at hy
          split at he
          · rename_i e
            subst e
            simp only [Region.wanted, hog, hy, BEq.rfl, if_true]
            exact opd_ok hC g hnN hc he hn
          · rename_i e
            have : Region.wanted o (yielded ops a.tmps) = false := by
              simp only [Region.wanted, hog, hy]
              simpa using e
            simp only [this]
            exact ⟨fun _ _ => trivial, hskip he⟩
        · rename_i hb
          rw [hb] at hr
          simp only [LRep] at hr
          obtain ⟨vs, rfl, _⟩ := hr
          simp only at hy
          have : Region.wanted o (yielded ops a.tmps) = false := by
            simp only [Region.wanted, hog, hy]
            rfl
          simp only [this]
          exact ⟨fun _ _ => trivial, hskip he⟩
        · cases he
      · cases hg
  · cases he

theorem cOpers_get : ∀ {os : List Oper} (k : Nat), (cOpers P n ops os)[k]? = (os[k]?).map (cOper P n ops)
  | [], k => by simp [cOpers]
  | o :: os, 0 => by simp [cOpers]
  | o :: os, k + 1 => by simp [cOpers, cOpers_get]

theorem wpOps_ok (hC : GoodAt P C N lo) (hnN : n.le N) : ∀ {s : List Nat} {st : St} {ok : Nat → Prop} {ρ : Rho} {a : Act} {w : World}, Gam N w0 ok0 st ok ρ a w → evIdx C lo (cOpers P n ops ops.toList) s st = some st' → Into N w0 ok0 st' (Q .normal) → wpOpsIn (FR rd) 0 P ops Q s a w
  | [], st, ok, ρ, a, w, g, he, hn => by
    obtain rfl := Option.some.inj he
    exact hn _ _ _ _ g
  | i :: s, st, ok, ρ, a, w, g, he, hn => by
    simp only [evIdx, cOpers_get, Array.getElem?_toList] at he
    simp only [wpOpsIn]
    cases ho : ops[i]? with
    | none =>
      rw [ho] at he
      simp only [Option.map_none] at he
      exact wpOps_ok hC hnN g he hn
    | some o =>
      rw [ho] at he
      simp only [Option.map_some] at he
      cases h1 : evOper C lo st (cOper P n ops o) with
      | none => rw [h1] at he; cases he
      | some st1 =>
        rw [h1] at he
        exact oper_ok (next := wpOpsIn (FR rd) 0 P ops Q s) hC g hnN h1 fun ok ρ a w g' => wpOps_ok hC hnN g' he hn

theorem evOps_idx (ios : List IOper) : ∀ (r : List IOper) (k : Nat) (st : St), (∀ j, ios[k + j]? = r[j]?) → evOps C lo r (some st) = evIdx C lo ios (List.range' k r.length) st
  | [], k, st, _ => by simp [evOps, evIdx]
  | o :: r, k, st, h => by
    have h0 : ios[k]? = some o := by simpa using h 0
    simp only [evOps, List.length_cons, List.range'_succ, evIdx, h0]
    cases h1 : evOper C lo st o with
    | none => cases r <;> rfl
    | some st1 => exact evOps_idx ios r (k + 1) st1 fun j => by have := h (j + 1); simpa [Nat.add_assoc, Nat.add_comm 1 j] using this
theorem cOpers_length : ∀ {os : List Oper}, (cOpers P n ops os).length = os.length
  | [] => rfl
  | o :: os => by simp [cOpers, cOpers_length]
end
end Go.Proofs.Ytpccjkabffpnhaa.Sx
namespace Go.Proofs.Ytpccjkabffpnhaa.Sx
open Go Go.RowKit

def patchH (h' h1 : Hp) (wr : List Nat) : Hp := fun i => if i ∈ wr then h1 i else h' i
def patch (st' st1 : St) (d : Option Nat) (wr : List Nat) : St := { env := fun i => if d = some i then st1.env i else st'.env i, hp := patchH st'.hp st1.hp wr }

theorem St.ext' {a b : St} (h1 : ∀ i, a.env i = b.env i) (h2 : ∀ i, a.hp i = b.hp i) : a = b := by
  obtain ⟨e, h⟩ := a
  obtain ⟨e', h'⟩ := b
  have : e = e' := funext h1
  have : h = h' := funext h2
  subst_vars
  rfl

section
variable {C : Cs} {lo : Nat} {st st' st1 : St}

theorem rd_eq {e e' : Nat → LV} {x : X} (h : ∀ i ∈ x.rs, e' i = e i) : x.rd e' = x.rd e := by
  cases x with
  | t i => exact h i (by simp [X.rs])
  | c l => rfl
  | fn f => rfl
theorem rds_eq {e e' : Nat → LV} : ∀ {xs : List X}, (∀ i ∈ xrs xs, e' i = e i) → rds e' xs = rds e xs
  | [], _ => rfl
  | x :: xs, h => by
    simp only [rds]
    rw [rd_eq fun i hi => h i (by simp [xrs, hi]), rds_eq fun i hi => h i (by simp [xrs, hi])]
theorem buildCells_eq {e e' : Nat → LV} : ∀ {ps : List (Nat × Nat × X)} {cs : List LV}, (∀ i ∈ prs ps, e' i = e i) → buildCells e' cs ps = buildCells e cs ps
  | [], _, _ => rfl
  | (off, n, x) :: ps, cs, h => by
    simp only [buildCells]
    rw [rd_eq fun i hi => h i (by simp [prs, hi])]
    split
    · exact buildCells_eq fun i hi => h i (by simp [prs, hi])
    · rfl
theorem bndX_eq {e e' : Nat → LV} {k : Nat} {x : Option X} {m : Option Nat} (h : ∀ i ∈ oxrs x, e' i = e i) : bndX e' k x m = bndX e k x m := by
  cases x with
  | none => cases m <;> rfl
  | some x => cases m with
    | none => rfl
    | some m => simp only [bndX]; rw [rd_eq fun i hi => h i (by simpa [oxrs] using hi)]

/-! ### trees of what lies in memory -/
theorem solidS_eq {h h' : Hp} {off len id : Nat} {t : TV} {is : List Nat} (he : solidS off len id (h id) = some (t, is)) (hh : ∀ i ∈ is, h' i = h i) : solidS off len id (h' id) = some (t, is) := by
  have hm : id ∈ is := by
    unfold solidS at he
    split at he
    · simp only [Option.some.injEq, Prod.mk.injEq] at he
      rw [← he.2]; simp
    · cases he
  rw [hh id hm]; exact he
theorem solidCell_eq {h h' : Hp} {l : LV} {t : TV} {is : List Nat} (he : solidCell h l = some (t, is)) (hh : ∀ i ∈ is, h' i = h i) : solidCell h' l = some (t, is) := by
  unfold solidCell at he ⊢
  split at he
  case h_8 => exact solidS_eq he hh
  all_goals first | exact he | (cases he; done)
theorem consS_some {x : Option (TV × List Nat)} {y : Option (List TV × List Nat)} {r : List TV × List Nat} (h : consS x y = some r) : ∃ t i ts is, x = some (t, i) ∧ y = some (ts, is) ∧ r = (t :: ts, i ++ is) := by
  unfold consS at h
  split at h
  · exact ⟨_, _, _, _, rfl, rfl, (Option.some.inj h).symm⟩
  · cases h
theorem solidCells_eq {h h' : Hp} : ∀ {ls : List LV} {ts : List TV} {is : List Nat}, solidCells h ls = some (ts, is) → (∀ i ∈ is, h' i = h i) → solidCells h' ls = some (ts, is)
  | [], ts, is, he, _ => he
  | l :: ls, ts, is, he, hh => by
    simp only [solidCells] at he ⊢
    obtain ⟨t, i1, ts', i2, h1, h2, h3⟩ := consS_some he
    obtain ⟨rfl, rfl⟩ := Prod.mk.inj h3
    rw [solidCell_eq h1 fun i hi => hh i (by simp [hi]), solidCells_eq h2 fun i hi => hh i (by simp [hi])]
    rfl
theorem solidP_eq {h h' : Hp} {id off : Nat} {t : TV} {is : List Nat} (he : solidP h id off (h id) = some (t, is)) (hh : ∀ i ∈ is, h' i = h i) : solidP h' id off (h' id) = some (t, is) := by
  unfold solidP at he
  split at he
  · rename_i f cs ho
    unfold pcS at he
    split at he
    · rename_i ts is' h1
      simp only [Option.some.injEq, Prod.mk.injEq] at he
      obtain ⟨rfl, rfl⟩ := he
      rw [hh id (by simp), ho]
      simp only [solidP]
      rw [solidCells_eq h1 fun i hi => hh i (by simp [hi])]
      rfl
    · cases he
  · cases he
theorem solidCap_eq {h h' : Hp} {l : LV} {t : TV} {is : List Nat} (he : solidCap h l = some (t, is)) (hh : ∀ i ∈ is, h' i = h i) : solidCap h' l = some (t, is) := by
  unfold solidCap at he ⊢
  split at he
  · exact solidP_eq he hh
  · exact solidCell_eq he hh
theorem solidCaps_eq {h h' : Hp} : ∀ {ls : List LV} {ts : List TV} {is : List Nat}, solidCaps h ls = some (ts, is) → (∀ i ∈ is, h' i = h i) → solidCaps h' ls = some (ts, is)
  | [], ts, is, he, _ => he
  | l :: ls, ts, is, he, hh => by
    simp only [solidCaps] at he ⊢
    obtain ⟨t, i1, ts', i2, h1, h2, h3⟩ := consS_some he
    obtain ⟨rfl, rfl⟩ := Prod.mk.inj h3
    rw [solidCap_eq h1 fun i hi => hh i (by simp [hi]), solidCaps_eq h2 fun i hi => hh i (by simp [hi])]
    rfl
theorem solidArg_eq {h h' : Hp} {l : LV} {t : TV} {is : List Nat} (he : solidArg h l = some (t, is)) (hh : ∀ i ∈ is, h' i = h i) : solidArg h' l = some (t, is) := by
  unfold solidArg at he ⊢
  split at he
  · unfold aggS at he
    split at he
    · rename_i ts is' h1
      simp only [Option.some.injEq, Prod.mk.injEq] at he
      obtain ⟨rfl, rfl⟩ := he
      simp only [solidCells_eq h1 hh]
      rfl
    · cases he
  · exact solidP_eq he hh
  · unfold fnS at he
    split at he
    · rename_i ts is' h1
      simp only [Option.some.injEq, Prod.mk.injEq] at he
      obtain ⟨rfl, rfl⟩ := he
      simp only [solidCaps_eq h1 hh]
      rfl
    · cases he
  · exact he
  · exact solidCell_eq he hh
theorem solidArgs_eq {h h' : Hp} : ∀ {ls : List LV} {ts : List TV} {is : List Nat}, solidArgs h ls = some (ts, is) → (∀ i ∈ is, h' i = h i) → solidArgs h' ls = some (ts, is)
  | [], ts, is, he, _ => he
  | l :: ls, ts, is, he, hh => by
    simp only [solidArgs] at he ⊢
    obtain ⟨t, i1, ts', i2, h1, h2, h3⟩ := consS_some he
    obtain ⟨rfl, rfl⟩ := Prod.mk.inj h3
    rw [solidArg_eq h1 fun i hi => hh i (by simp [hi]), solidArgs_eq h2 fun i hi => hh i (by simp [hi])]
    rfl
theorem solidRows_eq {h h' : Hp} {e e' : Nat → LV} {sz : Nat} : ∀ {xs : List X} {rs : List (List TV)} {is : List Nat}, solidRows h e sz xs = some (rs, is) → (∀ i ∈ xrs xs, e' i = e i) → (∀ i ∈ is, h' i = h i) → solidRows h' e' sz xs = some (rs, is)
  | [], rs, is, he, _, _ => he
  | x :: xs, rs, is, he, hx, hh => by
    simp only [solidRows] at he ⊢
    unfold consR at he
    split at he
    · rename_i r i1 rs' i2 h1 h2
      split at he
      · rename_i hsz
        simp only [Option.some.injEq, Prod.mk.injEq] at he
        obtain ⟨rfl, rfl⟩ := he
        rw [rd_eq fun i hi => hx i (by simp [xrs, hi]), solidCells_eq h1 fun i hi => hh i (by simp [hi]), solidRows_eq h2 (fun i hi => hx i (by simp [xrs, hi])) fun i hi => hh i (by simp [hi])]
        simp only [consR, hsz, if_true]
      · cases he
    · cases he

theorem frz_at {h h' : Hp} {j : Nat} (e : h' j = h j) (i : Nat) : upd h' i (frz (h' i)) j = upd h i (frz (h i)) j := by
  by_cases hj : j = i
  · subst hj; rw [upd_same, upd_same, e]
  · rw [upd_ne _ _ hj, upd_ne _ _ hj, e]
theorem freezeAll_at : ∀ (is : List Nat) {h h' : Hp} {j : Nat}, h' j = h j → Sx.freezeAll h' is j = Sx.freezeAll h is j
  | [], _, _, _, e => e
  | i :: is, h, h', j, e => freezeAll_at is (frz_at e i)
theorem freezeAll_out : ∀ (is : List Nat) {h : Hp} {j : Nat}, j ∉ is → Sx.freezeAll h is j = h j
  | [], _, _, _ => rfl
  | i :: is, h, j, hj => by
    show Sx.freezeAll (upd h i (frz (h i))) is j = h j
    rw [freezeAll_out is (fun hm => hj (by simp [hm])), upd_ne _ _ (fun e => hj (by simp [e]))]

/-! ### single changes -/
theorem set_loc {d : Nat} {l : LV} {wr : List Nat} (hw : ∀ i ∈ wr, st'.hp i = st.hp i) : st'.set d l = patch st' (st.set d l) (some d) wr := by
  refine St.ext' (fun i => ?_) fun i => ?_
  · simp only [St.set, patch, upd]
    by_cases e : i = d
    · subst e; simp
    · rw [if_neg e, if_neg (by simpa using fun h => e h.symm)]
  · simp only [St.set, patch, patchH]
    split
    · exact hw i (by assumption)
    · rfl
theorem setM_loc {d : Nat} {x x' : Option LV} {wr : List Nat} (h : setM st d x = some st1) (hx : x' = x) (hw : ∀ i ∈ wr, st'.hp i = st.hp i) : setM st' d x' = some (patch st' st1 (some d) wr) := by
  subst hx
  cases x' with
  | none => cases h
  | some l =>
    obtain rfl := Option.some.inj h
    exact congrArg some (set_loc hw)
theorem setV_loc {d : Nat} {x x' : Option TV} {wr : List Nat} (h : setV st d x = some st1) (hx : x' = x) (hw : ∀ i ∈ wr, st'.hp i = st.hp i) : setV st' d x' = some (patch st' st1 (some d) wr) := by
  subst hx
  cases x' with
  | none => cases h
  | some l =>
    obtain rfl := Option.some.inj h
    exact congrArg some (set_loc hw)
theorem mkO_loc {d k : Nat} {o : Ob} {l : LV} {h h' : Hp} {wr0 : List Nat} (he : mkO d k o l ⟨st.env, h⟩ = some st1) (hk : h' k = h k) (h1 : ∀ i ∈ wr0, h' i = h i) (h2 : ∀ i, i ∉ wr0 → h' i = st'.hp i) :
    mkO d k o l ⟨st'.env, h'⟩ = some (patch st' st1 (some d) (k :: wr0)) := by
  unfold mkO mkK at he ⊢
  dsimp only at he ⊢
  rw [hk]
  split at he
  · rename_i hn
    obtain rfl := Option.some.inj he
    refine congrArg some (St.ext' (fun i => ?_) fun i => ?_)
    · show upd st'.env d l i = if some d = some i then upd st.env d l i else st'.env i
      simp only [upd]
      by_cases e : i = d
      · subst e; simp
      · rw [if_neg e, if_neg (by simpa using fun h => e h.symm)]
    · show upd h' k (some o) i = if i ∈ k :: wr0 then upd h k (some o) i else st'.hp i
      by_cases e : i = k
      · subst e; rw [upd_same, if_pos (by simp), upd_same]
      · rw [upd_ne _ _ e]
        by_cases hm : i ∈ wr0
        · rw [if_pos (by simp [hm]), upd_ne _ _ e]; exact h1 i hm
        · rw [if_neg (by simp [e, hm])]; exact h2 i hm
  · cases he

/-! ### results -/
/-- F turns wr alone, and looks at wr alone -/
def LocT {β : Type} (F : St → Option (β × St)) (wr : List Nat) : Prop := ∀ (st : St) (r : β) (st1 : St), F st = some (r, st1) → st1.env = st.env ∧ ∀ st' : St, (∀ i ∈ wr, st'.hp i = st.hp i) → F st' = some (r, { env := st'.env, hp := patchH st'.hp st1.hp wr })
theorem LocT.out {β : Type} {F : St → Option (β × St)} {wr : List Nat} (h : LocT F wr) {st st1 : St} {r : β} (he : F st = some (r, st1)) {i : Nat} (hi : i ∉ wr) : st1.hp i = st.hp i := by
  have := (h st r st1 he).2 st fun _ _ => rfl
  rw [he] at this
  have e := congrArg St.hp (Prod.mk.inj (Option.some.inj this)).2
  rw [e]
  simp [patchH, hi]
theorem LocT.then {β γ δ : Type} {F : St → Option (β × St)} {G : St → Option (γ × St)} {n1 n2 : List Nat} (hF : LocT F n1) (hG : LocT G n2) (k : β → γ → δ) :
    LocT (fun st => match F st with | some (x, st1) => (match G st1 with | some (y, st2) => some (k x y, st2) | none => none) | none => none) (n1 ++ n2) := by
  intro st r st2 h
  cases h1 : F st with
  | none => simp only [h1] at h; cases h
  | some q =>
    obtain ⟨x, sta⟩ := q
    simp only [h1] at h
    cases h2 : G sta with
    | none => rw [h2] at h; cases h
    | some q =>
      obtain ⟨y, stb⟩ := q
      rw [h2] at h
      simp only [Option.some.injEq, Prod.mk.injEq] at h
      obtain ⟨rfl, rfl⟩ := h
      obtain ⟨e1, f1⟩ := hF st x sta h1
      obtain ⟨e2, f2⟩ := hG sta y stb h2
      refine ⟨e2.trans e1, fun st' hw => ?_⟩
      have g1 := f1 st' fun i hi => hw i (by simp [hi])
      have g2 := f2 ⟨st'.env, patchH st'.hp sta.hp n1⟩ fun i hi => by
        simp only [patchH]
        split
        · rfl
        · rename_i hn
          rw [hF.out h1 hn]
          exact hw i (by simp [hi])
      simp only [g1, g2]
      refine congrArg some (Prod.ext rfl (St.ext' (fun _ => rfl) fun i => ?_))
      simp only [patchH, List.mem_append]
      by_cases i2 : i ∈ n2
      · simp [i2]
      · by_cases i1 : i ∈ n1
        · simp [i1, i2, hG.out h2 i2]
        · simp [i1, i2]
theorem LocT.pure {β : Type} (r : β) : LocT (fun st => some (r, st)) [] := fun st r' st1 h => by
  simp only [Option.some.injEq, Prod.mk.injEq] at h
  obtain ⟨rfl, rfl⟩ := h
  exact ⟨rfl, fun st' _ => congrArg some (Prod.ext rfl (St.ext' (fun _ => rfl) fun i => by simp [patchH]))⟩
theorem LocT.map {β γ : Type} {F : St → Option (β × St)} {n : List Nat} (hF : LocT F n) (k : β → γ) : LocT (fun st => match F st with | some (x, st1) => some (k x, st1) | none => none) n := by
  have h := hF.then (LocT.pure ()) fun x _ => k x
  rw [List.append_nil] at h
  exact h
theorem LocT.congr {β : Type} {F G : St → Option (β × St)} {n : List Nat} (hF : LocT F n) (e : ∀ st, G st = F st) : LocT G n := by
  have : G = F := funext e
  rw [this]; exact hF

theorem consT_eq (l : LV) (x : Option (List LV × St)) : consT l x = match x with | some (ls, st) => some (l :: ls, st) | none => none := by cases x <;> rfl

def newO (k : Nat) (o : Ob) (st : St) : Option (Unit × St) := match st.hp k with
  | none => some ((), { st with hp := upd st.hp k (some o) })
  | some _ => none
theorem newO_loc (k : Nat) (o : Ob) : LocT (newO k o) [k] := by
  intro st r st1 h
  unfold newO at h
  split at h
  · rename_i hk
    simp only [Option.some.injEq, Prod.mk.injEq] at h
    obtain ⟨_, rfl⟩ := h
    refine ⟨rfl, fun st' hw => ?_⟩
    have := hw k (by simp)
    unfold newO
    rw [this, hk]
    refine congrArg some (Prod.ext rfl (St.ext' (fun _ => rfl) fun i => ?_))
    simp only [patchH, List.mem_singleton]
    by_cases e : i = k
    · subst e; simp [upd]
    · simp [upd, e]
  · cases h

theorem thawCells_loc : ∀ (ts : List TV) (k : Nat), LocT (thawCells k ts) (thawNs k ts)
  | [], k => by simpa only [thawCells, thawNs] using LocT.pure []
  | t :: ts, k => by
    have ih := thawCells_loc ts (k + 1)
    by_cases hown : ∃ e sz rows, t = .sl (.own e) sz rows
    · obtain ⟨e, sz, rows, rfl⟩ := hown
      have h := (newO_loc k (.arr false e sz rows)).then ih fun _ ls => LV.s k 0 rows.length :: ls
      simp only [thawNs]
      refine LocT.congr h fun st => ?_
      simp only [thawCells, thawOne, newO]
      cases st.hp k with
      | none => simp only; cases thawCells (k + 1) ts ⟨st.env, upd st.hp k (some (.arr false e sz rows))⟩ <;> rfl
      | some o => rfl
    · have hT : ∀ st, thawCells k (t :: ts) st = consT (.v t) (thawCells (k + 1) ts st) := fun st => by
        cases t with
        | sl fl sz rows => cases fl with
          | own e => exact absurd ⟨e, sz, rows, rfl⟩ hown
          | shared => rfl
          | tight e => rfl
        | _ => rfl
      have hN : thawNs k (t :: ts) = thawNs (k + 1) ts := by
        cases t with
        | sl fl sz rows => cases fl with
          | own e => exact absurd ⟨e, sz, rows, rfl⟩ hown
          | shared => rfl
          | tight e => rfl
        | _ => rfl
      rw [hN]
      refine LocT.congr (ih.map fun ls => LV.v t :: ls) fun st => ?_
      rw [hT]
      cases thawCells (k + 1) ts st <;> rfl

/-- F, where what it leaves goes through k, which may fail -/
theorem LocT.bind {β γ : Type} {F : St → Option (β × St)} {n : List Nat} (hF : LocT F n) (k : β → Option γ) : LocT (fun st => match F st with | some (x, st1) => (match k x with | some y => some (y, st1) | none => none) | none => none) n := by
  intro st r st1 h
  cases h1 : F st with
  | none => simp only [h1] at h; cases h
  | some q =>
    obtain ⟨x, sta⟩ := q
    simp only [h1] at h
    cases h2 : k x with
    | none => rw [h2] at h; cases h
    | some y =>
      rw [h2] at h
      simp only [Option.some.injEq, Prod.mk.injEq] at h
      obtain ⟨rfl, rfl⟩ := h
      obtain ⟨e1, f1⟩ := hF st x sta h1
      refine ⟨e1, fun st' hw => ?_⟩
      simp only [f1 st' hw, h2]
theorem LocT.none {β : Type} (n : List Nat) : LocT (fun _ : St => (Option.none : Option (β × St))) n := fun _ _ _ h => by cases h

theorem thaw1_loc (t : TV) (k : Nat) : LocT (thaw1 k t) (thawN1 k t) := by
  by_cases ha : ∃ cs, t = .agg cs
  · obtain ⟨cs, rfl⟩ := ha
    simp only [thawN1]
    by_cases hl : cs.length ≤ 16
    · refine LocT.congr ((thawCells_loc cs k).map fun ls => LV.agg ls) fun st => ?_
      simp only [thaw1, hl, if_true]
      cases thawCells k cs st <;> rfl
    · refine LocT.congr (LocT.none _) fun st => ?_
      simp only [thaw1, hl, if_false]
  · have hT : ∀ st, thaw1 k t st = oneT (thawCells k [t] st) := fun st => by cases t with
      | agg cs => exact absurd ⟨cs, rfl⟩ ha
      | _ => rfl
    have hN : thawN1 k t = thawNs k [t] := by cases t with
      | agg cs => exact absurd ⟨cs, rfl⟩ ha
      | _ => rfl
    rw [hN]
    refine LocT.congr ((thawCells_loc [t] k).bind fun ls => match ls with | [l] => some l | _ => Option.none) fun st => ?_
    rw [hT]
    cases thawCells k [t] st with
    | none => rfl
    | some q =>
      obtain ⟨ls, st1⟩ := q
      match ls with
      | [] => rfl
      | [l] => rfl
      | _ :: _ :: _ => rfl

theorem thawVs_loc : ∀ (ts : List TV) (k : Nat), LocT (thawVs k ts) (thawNVs k ts)
  | [], k => by simpa only [thawVs, thawNVs] using LocT.pure []
  | t :: ts, k => by
    simp only [thawNVs]
    refine LocT.congr ((thaw1_loc t k).then (thawVs_loc ts (k + 16)) fun l ls => l :: ls) fun st => ?_
    simp only [thawVs]
    cases thaw1 k t st with
    | none => rfl
    | some q => simp only [thawK]; cases thawVs (k + 16) ts q.2 <;> rfl
theorem thaw_loc (t : TV) (k : Nat) : LocT (thaw k t) (thawN k t) := by
  by_cases ha : ∃ cs, t = .tup cs
  · obtain ⟨cs, rfl⟩ := ha
    simp only [thawN]
    refine LocT.congr ((thawVs_loc cs k).map fun ls => LV.tup ls) fun st => ?_
    simp only [thaw]
    cases thawVs k cs st <;> rfl
  · have hT : ∀ st, thaw k t st = thaw1 k t st := fun st => by cases t with
      | tup cs => exact absurd ⟨cs, rfl⟩ ha
      | _ => rfl
    have hN : thawN k t = thawN1 k t := by cases t with
      | tup cs => exact absurd ⟨cs, rfl⟩ ha
      | _ => rfl
    rw [hN]
    exact LocT.congr (thaw1_loc t k) hT
end
end Go.Proofs.Ytpccjkabffpnhaa.Sx
namespace Go.Proofs.Ytpccjkabffpnhaa.Sx
open Go Go.RowKit

section
variable {C : Cs} {lo : Nat} {st st' st1 : St}

theorem loadL_eq {h h' : Hp} {n : Nat} {ag : Bool} {l : LV} (hh : ∀ i ∈ fpA l, h' i = h i) : loadL h' n ag l = loadL h n ag l := by
  cases l with
  | p id off => simp only [loadL, hh id (by simp [fpA])]
  | pe id r off => simp only [loadL, hh id (by simp [fpA])]
  | v t => cases t <;> rfl
  | _ => rfl
theorem iaddrL_eq {h h' : Hp} {sz : Nat} {l m : LV} (hh : ∀ i ∈ fpA l, h' i = h i) : iaddrL h' sz l m = iaddrL h sz l m := by
  unfold iaddrL
  split
  · rfl
  · rw [hh _ (by simp [fpA])]
  · rfl
theorem sliceL_eq {h h' : Hp} {e e' : Nat → LV} {te : TypeId} {sz : Nat} {a b c : Option X} {l : LV} (h1 : ∀ i ∈ oxrs a, e' i = e i) (h2 : ∀ i ∈ oxrs b, e' i = e i) (h3 : ∀ i ∈ oxrs c, e' i = e i) (hh : ∀ i ∈ fpA l, h' i = h i) :
    sliceL h' te sz e' a b c l = sliceL h te sz e a b c l := by
  unfold sliceL
  split
  · simp only [cutV2, bndX_eq h1, bndX_eq h2]
  · simp only [cutV3, bndX_eq h1, bndX_eq h2, bndX_eq (x := some _) (by simpa [oxrs] using h3)]
  · rw [hh _ (by simp [fpA])]; simp only [bndX_eq h1, bndX_eq h2]
  · rfl
theorem rowsOf_eq {h h' : Hp} {l : LV} (hh : ∀ i ∈ fpA l, h' i = h i) : rowsOf h' l = rowsOf h l := by
  cases l with
  | s id off len => simp only [rowsOf, hh id (by simp [fpA])]
  | v t => cases t <;> rfl
  | _ => rfl
theorem rowsB_eq {h h' : Hp} {l : LV} (hh : ∀ i ∈ fpA l, h' i = h i) : rowsB h' l = rowsB h l := by
  cases l with
  | s id off len => simp only [rowsB, hh id (by simp [fpA])]
  | v t => cases t <;> rfl
  | _ => rfl

theorem pick_loc {d : Nat} {a b c : LV} {wr : List Nat} (h : pickK st d a b c = some st1) (hw : ∀ i ∈ wr, st'.hp i = st.hp i) : pickK st' d a b c = some (patch st' st1 (some d) wr) := by
  unfold pickK at h ⊢
  split at h
  · split at h
    · rename_i hc; obtain rfl := Option.some.inj h; simp only [hc, if_true]; exact congrArg some (set_loc hw)
    · rename_i hc; obtain rfl := Option.some.inj h; simp only [hc]; exact congrArg some (set_loc hw)
  · cases h

theorem hp_loc {id : Nat} {o : Ob} {h h' : Hp} {wr0 : List Nat} {wr : List Nat} (hid : id ∈ wr) (hs : ∀ i ∈ wr0, i ∈ wr) (h1 : ∀ i ∈ wr, h' i = h i) (h2 : ∀ i, i ∉ wr → h' i = st'.hp i) {e e' : Nat → LV} {d : Option Nat} (he : ∀ i, e' i = if d = some i then e i else st'.env i) :
    (⟨e', upd h' id (some o)⟩ : St) = patch st' ⟨e, upd h id (some o)⟩ d wr := by
  refine St.ext' (fun i => he i) fun i => ?_
  show upd h' id (some o) i = if i ∈ wr then upd h id (some o) i else st'.hp i
  by_cases ei : i = id
  · subst ei; rw [upd_same, if_pos hid, upd_same]
  · rw [upd_ne _ _ ei, upd_ne _ _ ei]
    by_cases hm : i ∈ wr
    · rw [if_pos hm]; exact h1 i hm
    · rw [if_neg hm]; exact h2 i hm

theorem store_loc {n : Nat} {xs : List LV} {l : LV} {wr : List Nat} (h : storeL st n xs l = some st1) (hwr : wr = fpW (solidCells st.hp xs) l) (hw : ∀ i ∈ wr, st'.hp i = st.hp i) :
    storeL st' n xs l = some (patch st' st1 none wr) ∧ fpW (solidCells st'.hp xs) l = fpW (solidCells st.hp xs) l := by
  unfold storeL at h ⊢
  split at h
  · rename_i id off
    have hid : id ∈ wr := by rw [hwr]; simp [fpW]
    refine ⟨?_, rfl⟩
    simp only [hw id hid]
    unfold storeP at h ⊢
    split at h
    · split at h
      · rename_i hh
        obtain rfl := Option.some.inj h
        simp only [hh, and_self, if_true]
        exact congrArg some (hp_loc hid (wr0 := []) (by simp) hw (fun _ _ => rfl) (by simp))
      · cases h
    · cases h
  · rename_i id row off
    have hid : id ∈ wr := by rw [hwr]; simp [fpW]
    cases hs : solidCells st.hp xs with
    | none => rw [hs] at h; cases h
    | some q =>
      obtain ⟨ts, is⟩ := q
      have his : ∀ i ∈ is, i ∈ wr := fun i hi => by rw [hwr, hs]; simp [fpW, fpS, hi]
      rw [hs] at h
      rw [solidCells_eq hs fun i hi => hw i (his i hi)]
      refine ⟨?_, rfl⟩
      simp only [hw id hid]
      unfold storeE at h ⊢
      split at h
      · rename_i h1 h2
        simp only [Option.some.injEq, Prod.mk.injEq] at h1
        obtain ⟨rfl, rfl⟩ := h1
        unfold storeE2 at h ⊢
        split at h
        · rename_i r hr
          split at h
          · rename_i hh
            obtain rfl := Option.some.inj h
            simp only [hh, and_self, not_false_eq_true, if_true]
            exact congrArg some (hp_loc hid his (fun i hi => freezeAll_at _ (hw i hi)) (fun i hi => freezeAll_out _ fun hm => hi (his i hm)) (by simp))
          · cases h
        · cases h
      · cases h
  · cases h

theorem app_loc {d : Nat} {e : TypeId} {sz bytes : Nat} {x : LV} {y y' : Option (Nat × List (List TV))} {wr : List Nat} (h : appK lo st d e sz bytes x y = some st1) (hy : y' = y) (hwr : wr = (lo + d) :: fpA x) (hw : ∀ i ∈ wr, st'.hp i = st.hp i) :
    appK lo st' d e sz bytes x y' = some (patch st' st1 (some d) wr) := by
  subst hy
  unfold appK at h ⊢
  split at h
  · rename_i sz' new
    split at h
    · rename_i hsz
      simp only [hsz, if_true]
      unfold appL at h ⊢
      split at h
      · rename_i fe sz2 rows
        split at h
        · rename_i hsz2
          simp only [hsz2, if_true]
          have hwr' : wr = [lo + d] := by rw [hwr]; rfl
          subst hwr'
          unfold appT at h ⊢
          split at h
          · split at h
            · rename_i hb
              simp only [hb, if_true]
              exact mkO_loc (st := st) (wr0 := []) h (hw _ (by simp)) (by simp) (fun _ _ => rfl)
            · cases h
          · split at h
            · rename_i hb
              obtain rfl := Option.some.inj h
              simp only [hb, if_true]
              exact congrArg some (set_loc hw)
            · rename_i hb
              split at h
              · rename_i hb2
                simp only [hb, if_false, hb2, if_true]
                exact mkO_loc (st := st) (wr0 := []) h (hw _ (by simp)) (by simp) (fun _ _ => rfl)
              · cases h
        · cases h
      · rename_i id len
        have hwr' : wr = [lo + d, id] := by rw [hwr]; rfl
        subst hwr'
        simp only [hw id (by simp)]
        unfold appS at h ⊢
        split at h
        · split at h
          · rename_i hh
            simp only [hh, and_self, if_true]
            refine mkO_loc (st := st) (wr0 := [id]) h ?_ ?_ ?_
            · simp only [upd]; split
              · rfl
              · exact hw _ (by simp)
            · intro i hi; simp only [List.mem_singleton] at hi; subst hi; rw [upd_same, upd_same]
            · intro i hi; exact upd_ne _ _ (by simpa using hi)
          · cases h
        · cases h
      · cases h
    · cases h
  · cases h

theorem copy_loc {d sz : Nat} {x : LV} {y y' : Option (Nat × List (List TV))} {wr : List Nat} (h : copyK st d sz x y = some st1) (hy : y' = y) (hwr : wr = fpA x) (hw : ∀ i ∈ wr, st'.hp i = st.hp i) :
    copyK st' d sz x y' = some (patch st' st1 (some d) wr) := by
  subst hy
  unfold copyK at h ⊢
  split at h
  · split at h
    · rename_i hsz
      simp only [hsz, if_true]
      unfold copyL at h ⊢
      split at h
      · rename_i id off len
        have hid : id ∈ wr := by rw [hwr]; simp [fpA]
        simp only [hw id hid]
        unfold copyO at h ⊢
        split at h
        · split at h
          · rename_i hh
            obtain rfl := Option.some.inj h
            simp only [hh, if_true]
            refine congrArg some (hp_loc hid (wr0 := []) (by simp) hw (fun _ _ => rfl) fun i => ?_)
            simp only [upd]
            by_cases ei : i = d
            · subst ei; simp
            · rw [if_neg ei, if_neg (by simpa using fun h => ei h.symm)]
          · cases h
        · cases h
      · cases h
    · cases h
  · cases h

theorem call_loc {d : Nat} {is : List Nat} {r : Option TV} (h : callR lo d is st r = some st1) (hrd : ∀ i ∈ is, st'.hp i = st.hp i) (hw : ∀ i ∈ (fpCall lo d is r).wr, st'.hp i = st.hp i) :
    callR lo d is st' r = some (patch st' st1 (some d) (fpCall lo d is r).wr) := by
  cases r with
  | none => cases h
  | some r =>
    simp only [fpCall] at hw ⊢
    simp only [callR] at h ⊢
    generalize hH : (fun h : Hp => if is.isEmpty || r.flat then h else Sx.freezeAll h is) = H at *
    have hHs : ∀ h : Hp, (if is.isEmpty || r.flat then h else Sx.freezeAll h is) = H h := fun h => by rw [← hH]
    simp only [hHs] at h ⊢
    have hat : ∀ {h h' : Hp} {j : Nat}, h' j = h j → H h' j = H h j := fun {h h' j} e => by
      rw [← hH]
      simp only
      split
      · exact e
      · exact freezeAll_at is e
    have hout : ∀ {h : Hp} {j : Nat}, j ∉ (if r.flat = true then [] else is) → H h j = h j := fun {h j} e => by
      rw [← hH]
      simp only
      split
      · rfl
      · rename_i hc
        refine freezeAll_out is fun hm => e ?_
        have : r.flat = false := by simpa using (by simpa using hc : ¬ (is = [] ∨ r.flat = true)) ∘ Or.inr
        simp [this, hm]
    cases ht : thaw (lo + (1000 + d * 64)) r { env := st.env, hp := H st.hp } with
    | none => rw [ht] at h; cases h
    | some q =>
      obtain ⟨l, st2⟩ := q
      rw [ht] at h
      obtain rfl := Option.some.inj h
      have hloc := thaw_loc r (lo + (1000 + d * 64))
      obtain ⟨e1, f1⟩ := hloc _ _ _ ht
      have g1 := f1 ⟨st'.env, H st'.hp⟩ fun i hi => hat (hw i (by simp [hi]))
      rw [g1]
      simp only [callT]
      refine congrArg some (St.ext' (fun i => ?_) fun i => ?_)
      · show upd st'.env d l i = if some d = some i then upd st2.env d l i else st'.env i
        simp only [upd]
        by_cases ei : i = d
        · subst ei; simp
        · rw [if_neg ei, if_neg (by simpa using fun h => ei h.symm)]
      · show patchH (H st'.hp) st2.hp (thawN (lo + (1000 + d * 64)) r) i = patchH st'.hp st2.hp ((if r.flat = true then [] else is) ++ thawN (lo + (1000 + d * 64)) r) i
        simp only [patchH, List.mem_append]
        by_cases i2 : i ∈ thawN (lo + (1000 + d * 64)) r
        · simp [i2]
        · by_cases i1 : i ∈ (if r.flat = true then [] else is)
          · simp only [i1, i2, or_false, if_true, if_false]
            rw [hloc.out ht i2]
            exact hat (hw i (by simp only [List.mem_append]; exact .inl i1))
          · simp only [i1, i2, or_false, if_false]
            exact hout i1

theorem callA_loc {d : Nat} {f : FuncId} {ls : List LV} (h : callA C lo d f st (solidArgs st.hp ls) = some st1) (hrd : ∀ i ∈ (fpCallA C lo d f (solidArgs st.hp ls)).rd, st'.hp i = st.hp i)
    (hw : ∀ i ∈ (fpCallA C lo d f (solidArgs st.hp ls)).wr, st'.hp i = st.hp i) :
    callA C lo d f st' (solidArgs st'.hp ls) = some (patch st' st1 (some d) (fpCallA C lo d f (solidArgs st.hp ls)).wr) ∧ solidArgs st'.hp ls = solidArgs st.hp ls := by
  cases hs : solidArgs st.hp ls with
  | none => rw [hs] at h; cases h
  | some q =>
    obtain ⟨ts, is⟩ := q
    rw [hs] at h hrd hw
    simp only [callA, fpCallA] at h hrd hw ⊢
    have his : ∀ i ∈ is, st'.hp i = st.hp i := by
      cases hr : C.t f ts with
      | none => rw [hr] at h; cases h
      | some r => rw [hr] at hrd; exact hrd
    rw [solidArgs_eq hs his]
    exact ⟨call_loc h his hw, rfl⟩

theorem callF_loc {d : Nat} {args : List LV} {l : LV} (h : callF C lo d args st l = some st1) (hrd : ∀ i ∈ (fpCallF C lo d args st.hp l).rd, st'.hp i = st.hp i) (hw : ∀ i ∈ (fpCallF C lo d args st.hp l).wr, st'.hp i = st.hp i) :
    callF C lo d args st' l = some (patch st' st1 (some d) (fpCallF C lo d args st.hp l).wr) ∧ fpCallF C lo d args st'.hp l = fpCallF C lo d args st.hp l := by
  unfold callF at h ⊢
  split at h
  · simp only [fpCallF] at hrd hw ⊢
    have k := callA_loc h hrd hw
    exact ⟨k.1, by rw [k.2]⟩
  · simp only [fpCallF] at hrd hw ⊢
    have k := callA_loc h hrd hw
    exact ⟨k.1, by rw [k.2]⟩
  · cases h

theorem bslice_loc {d : Nat} {e : TypeId} {sz : Nat} {rows : List (List TV)} {is : List Nat} (h : bsliceK lo st d e sz (some (rows, is)) = some st1) (hw : ∀ i ∈ (lo + d) :: is, st'.hp i = st.hp i) :
    bsliceK lo st' d e sz (some (rows, is)) = some (patch st' st1 (some d) ((lo + d) :: is)) := by
  simp only [bsliceK] at h ⊢
  exact mkO_loc (st := st) h (freezeAll_at is (hw _ (by simp))) (fun i hi => freezeAll_at is (hw i (by simp [hi]))) (fun i hi => freezeAll_out is hi)

theorem mks_loc {d : Nat} {e : TypeId} {z : List TV} {bytes : Nat} {l c : LV} (h : mksK lo st d e z bytes l c = some st1) (hw : ∀ i ∈ [lo + d], st'.hp i = st.hp i) :
    mksK lo st' d e z bytes l c = some (patch st' st1 (some d) [lo + d]) := by
  unfold mksK at h ⊢
  split at h
  · split at h
    · rename_i hh
      simp only [hh, and_self, if_true]
      exact mkO_loc (st := st) (wr0 := []) h (hw _ (by simp)) (by simp) (fun _ _ => rfl)
    · cases h
  · cases h

theorem appz_loc {d : Nat} {e : TypeId} {z : List TV} {bytes : Nat} {l c : LV} (h : appzK lo st d e z bytes l c = some st1) (hw : ∀ i ∈ [lo + d], st'.hp i = st.hp i) :
    appzK lo st' d e z bytes l c = some (patch st' st1 (some d) [lo + d]) := by
  unfold appzK at h ⊢
  split at h
  · split at h
    · rename_i hh
      simp only [hh, and_self, if_true]
      exact mkO_loc (st := st) (wr0 := []) h (hw _ (by simp)) (by simp) (fun _ _ => rfl)
    · cases h
  · cases h
theorem mgetL_eq {h h' : Hp} {ks : List Lk} {kag vag cok : Bool} {zs : List TV} {key : Option (List LV)} {l : LV} (hh : ∀ i ∈ fpA l, h' i = h i) : mgetL h' ks kag vag zs cok key l = mgetL h ks kag vag zs cok key l := by
  cases l with
  | m id => cases key <;> simp only [mgetL, hh id (by simp [fpA])]
  | _ => cases key <;> rfl
theorem mlenL_eq {h h' : Hp} {l : LV} (hh : ∀ i ∈ fpA l, h' i = h i) : mlenL h' l = mlenL h l := by
  cases l with
  | m id => simp only [mlenL, hh id (by simp [fpA])]
  | _ => rfl
theorem mupd_loc {ks : List Lk} {kag vag : Bool} {n : Nat} {val : Option (List TV × List Nat)} {key : Option (List LV)} {l : LV} {wr : List Nat} (h : mupdL st ks kag vag n val key l = some st1) (hwr : wr = fpM val l) (hw : ∀ i ∈ wr, st'.hp i = st.hp i) :
    mupdL st' ks kag vag n val key l = some (patch st' st1 none wr) := by
  unfold mupdL at h ⊢
  split at h
  · rename_i key' id
    have hid : id ∈ wr := by rw [hwr]; simp [fpM]
    simp only [hw id hid]
    unfold mupdO at h ⊢
    split at h
    · rename_i kc vc is kag' vag' ents h1 h3
      have his : ∀ i ∈ is, i ∈ wr := fun i hi => by rw [hwr]; simp [fpM, fpS, hi]
      split at h
      · rename_i hh
        simp only [hh, and_self, not_false_eq_true, if_true]
        unfold setMap at h ⊢
        split at h
        · obtain rfl := Option.some.inj h
          exact congrArg some (hp_loc hid his (fun i hi => freezeAll_at _ (hw i hi)) (fun i hi => freezeAll_out _ fun hm => hi (his i hm)) (by simp))
        · cases h
      · cases h
    · cases h
  · cases h
theorem mdel_loc {ks : List Lk} {kag : Bool} {key : Option (List LV)} {l : LV} {wr : List Nat} (h : mdelL st ks kag key l = some st1) (hwr : wr = fpA l) (hw : ∀ i ∈ wr, st'.hp i = st.hp i) :
    mdelL st' ks kag key l = some (patch st' st1 none wr) := by
  unfold mdelL at h ⊢
  split at h
  · rename_i key' id
    have hid : id ∈ wr := by rw [hwr]; simp [fpA]
    simp only [hw id hid]
    unfold mdelO at h ⊢
    split at h
    · split at h
      · rename_i hh
        simp only [hh, and_self, if_true]
        unfold setMap at h ⊢
        split at h
        · obtain rfl := Option.some.inj h
          exact congrArg some (hp_loc hid (wr0 := []) (by simp) hw (fun _ _ => rfl) (by simp))
        · cases h
      · cases h
    · cases h
  · cases h
theorem solidO_eq {h h' : Hp} {x : Option (List LV)} {ts : List TV} {is : List Nat} (he : solidO h x = some (ts, is)) (hh : ∀ i ∈ is, h' i = h i) : solidO h' x = some (ts, is) := by
  cases x with
  | none => cases he
  | some ls => exact solidCells_eq he hh

theorem loc_op {o : IOp} (hi : o.inn = false) (h : evOp C lo st o = some st1) (he : ∀ i ∈ o.reads, st'.env i = st.env i) (hrd : ∀ i ∈ (fpOp C lo st o).rd, st'.hp i = st.hp i) (hw : ∀ i ∈ (fpOp C lo st o).wr, st'.hp i = st.hp i) :
    evOp C lo st' o = some (patch st' st1 o.dst (fpOp C lo st o).wr) ∧ fpOp C lo st' o = fpOp C lo st o := by
  have r1 : ∀ {x : X}, (∀ i ∈ x.rs, i ∈ o.reads) → x.rd st'.env = x.rd st.env := fun hx => rd_eq fun i hi => he i (hx i hi)
  have r2 : ∀ {xs : List X}, (∀ i ∈ xrs xs, i ∈ o.reads) → rds st'.env xs = rds st.env xs := fun hx => rds_eq fun i hi => he i (hx i hi)
  cases o with
  | icall d f args => cases hi
  | mv d x =>
    simp only [evOp, Option.some.injEq] at h ⊢
    subst h
    rw [r1 (x := x) fun i hi => hi]
    exact ⟨set_loc hw, rfl⟩
  | pick d c a b =>
    simp only [evOp] at h ⊢
    rw [r1 (x := c) (by simp +contextual [IOp.reads]), r1 (x := a) (by simp +contextual [IOp.reads]), r1 (x := b) (by simp +contextual [IOp.reads])]
    exact ⟨pick_loc h hw, rfl⟩
  | alloc d zs =>
    exact ⟨mkO_loc (st := st) (wr0 := []) h (hw _ (by simp [fpOp])) (by simp) (fun _ _ => rfl), rfl⟩
  | box d x n =>
    simp only [evOp] at h ⊢
    rw [r1 (x := x) fun i hi => hi]
    refine ⟨?_, rfl⟩
    unfold boxK at h ⊢
    split at h
    · rename_i hh
      simp only [hh, if_true]
      exact mkO_loc (st := st) (wr0 := []) h (hw _ (by simp [fpOp])) (by simp) (fun _ _ => rfl)
    · cases h
  | build d zs ps =>
    simp only [evOp] at h ⊢
    exact ⟨setM_loc h (buildCells_eq he) hw, rfl⟩
  | bslice d e sz ps =>
    simp only [evOp, fpOp] at h hrd hw ⊢
    cases hs : solidRows st.hp st.env sz ps with
    | none => rw [hs] at h; cases h
    | some q =>
      obtain ⟨rows, is⟩ := q
      rw [hs] at h hrd hw
      rw [solidRows_eq hs he hrd]
      exact ⟨bslice_loc h hw, rfl⟩
  | load d a n ag =>
    simp only [evOp, fpOp] at h hrd hw ⊢
    rw [r1 (x := a) fun i hi => hi]
    exact ⟨setM_loc h (loadL_eq hrd) hw, rfl⟩
  | store a x n =>
    simp only [evOp, fpOp] at h hrd hw ⊢
    rw [r1 (x := a) (by simp +contextual [IOp.reads]), r1 (x := x) (by simp +contextual [IOp.reads])]
    have k := store_loc h rfl hw
    exact ⟨k.1, by rw [k.2]⟩
  | nchk d x =>
    simp only [evOp] at h ⊢
    exact ⟨setM_loc h (by rw [r1 (x := x) fun i hi => hi]) hw, rfl⟩
  | bin d bt op x y =>
    simp only [evOp] at h ⊢
    exact ⟨setV_loc h (by rw [r1 (x := x) (by simp +contextual [IOp.reads]), r1 (x := y) (by simp +contextual [IOp.reads])]) hw, rfl⟩
  | eqs d neg ks x y =>
    simp only [evOp] at h ⊢
    exact ⟨setV_loc h (by rw [r1 (x := x) (by simp +contextual [IOp.reads]), r1 (x := y) (by simp +contextual [IOp.reads])]) hw, rfl⟩
  | un d op x =>
    simp only [evOp] at h ⊢
    exact ⟨setV_loc h (by rw [r1 (x := x) fun i hi => hi]) hw, rfl⟩
  | conv d k x =>
    simp only [evOp] at h ⊢
    exact ⟨setV_loc h (by rw [r1 (x := x) fun i hi => hi]) hw, rfl⟩
  | fld d x off n ag =>
    simp only [evOp] at h ⊢
    exact ⟨setM_loc h (by rw [r1 (x := x) fun i hi => hi]) hw, rfl⟩
  | faddr d a off =>
    simp only [evOp] at h ⊢
    exact ⟨setM_loc h (by rw [r1 (x := a) fun i hi => hi]) hw, rfl⟩
  | iaddr d x j sz =>
    simp only [evOp, fpOp] at h hrd hw ⊢
    rw [r1 (x := x) (by simp +contextual [IOp.reads])]
    exact ⟨setM_loc h (by rw [r1 (x := j) (by simp +contextual [IOp.reads])]; exact iaddrL_eq hrd) hw, rfl⟩
  | aaddr d x j len sz =>
    simp only [evOp] at h ⊢
    exact ⟨setM_loc h (by rw [r1 (x := x) (by simp +contextual [IOp.reads]), r1 (x := j) (by simp +contextual [IOp.reads])]) hw, rfl⟩
  | ixa d x j len sz ag =>
    simp only [evOp] at h ⊢
    exact ⟨setM_loc h (by rw [r1 (x := x) (by simp +contextual [IOp.reads]), r1 (x := j) (by simp +contextual [IOp.reads])]) hw, rfl⟩
  | ixs d x j =>
    simp only [evOp] at h ⊢
    exact ⟨setM_loc h (by rw [r1 (x := x) (by simp +contextual [IOp.reads]), r1 (x := j) (by simp +contextual [IOp.reads])]) hw, rfl⟩
  | slice d x l u m te sz =>
    simp only [evOp, fpOp] at h hrd hw ⊢
    rw [r1 (x := x) (by simp +contextual [IOp.reads])]
    exact ⟨setM_loc h (sliceL_eq (fun i hi => he i (by simp [IOp.reads, hi])) (fun i hi => he i (by simp [IOp.reads, hi])) (fun i hi => he i (by simp [IOp.reads, hi])) hrd) hw, rfl⟩
  | len d z x =>
    simp only [evOp] at h ⊢
    exact ⟨setV_loc h (by rw [r1 (x := x) fun i hi => hi]) hw, rfl⟩
  | cap d x =>
    simp only [evOp] at h ⊢
    exact ⟨setV_loc h (by rw [r1 (x := x) fun i hi => hi]) hw, rfl⟩
  | append d x y e sz bytes =>
    simp only [evOp, fpOp] at h hrd hw ⊢
    rw [r1 (x := x) (by simp +contextual [IOp.reads]), r1 (x := y) (by simp +contextual [IOp.reads])]
    exact ⟨app_loc h (rowsOf_eq fun i hi => hrd i (by simp [hi])) rfl hw, rfl⟩
  | copy d x y sz =>
    simp only [evOp, fpOp] at h hrd hw ⊢
    rw [r1 (x := x) (by simp +contextual [IOp.reads]), r1 (x := y) (by simp +contextual [IOp.reads])]
    exact ⟨copy_loc h (rowsOf_eq fun i hi => hrd i (by simp [hi])) rfl hw, rfl⟩
  | b2s d x =>
    simp only [evOp, fpOp] at h hrd hw ⊢
    rw [r1 (x := x) fun i hi => hi]
    exact ⟨setV_loc h (by rw [rowsB_eq hrd]) hw, rfl⟩
  | ext d x j =>
    simp only [evOp] at h ⊢
    exact ⟨setM_loc h (by rw [r1 (x := x) fun i hi => hi]) hw, rfl⟩
  | mkfn d f cs =>
    simp only [evOp, Option.some.injEq] at h ⊢
    subst h
    rw [r2 (xs := cs) fun i hi => hi]
    exact ⟨set_loc hw, rfl⟩
  | call d f args =>
    simp only [evOp, fpOp] at h hrd hw ⊢
    rw [r1 (x := f) (by simp +contextual [IOp.reads]), r2 (xs := args) (by simp +contextual [IOp.reads])]
    exact callF_loc h hrd hw
  | mn d args =>
    simp only [evOp] at h ⊢
    exact ⟨setM_loc h (by rw [r2 (xs := args) fun i hi => hi]) hw, rfl⟩
  | mx d args =>
    simp only [evOp] at h ⊢
    exact ⟨setM_loc h (by rw [r2 (xs := args) fun i hi => hi]) hw, rfl⟩
  | mkslice d l c e z bytes =>
    simp only [evOp, fpOp] at h hrd hw ⊢
    rw [r1 (x := l) (by simp +contextual [IOp.reads]), r1 (x := c) (by simp +contextual [IOp.reads])]
    exact ⟨mks_loc h hw, trivial⟩
  | isnil d neg ptr x =>
    simp only [evOp] at h ⊢
    exact ⟨setV_loc h (by rw [r1 (x := x) fun i hi => hi]) hw, rfl⟩
  | appz d x n e z bytes =>
    simp only [evOp, fpOp] at h hrd hw ⊢
    rw [r1 (x := x) (by simp +contextual [IOp.reads]), r1 (x := n) (by simp +contextual [IOp.reads])]
    exact ⟨appz_loc h hw, trivial⟩
  | mkmap d kag vag =>
    exact ⟨mkO_loc (st := st) (wr0 := []) h (hw _ (by simp [fpOp])) (by simp) (fun _ _ => rfl), rfl⟩
  | mget d ks kag vag zs cok m k =>
    simp only [evOp, fpOp] at h hrd hw ⊢
    rw [r1 (x := m) (by simp +contextual [IOp.reads]), r1 (x := k) (by simp +contextual [IOp.reads])]
    exact ⟨setM_loc h (mgetL_eq hrd) hw, rfl⟩
  | mupd ks kag vag n m k v =>
    simp only [evOp, fpOp] at h hrd hw ⊢
    rw [r1 (x := m) (by simp +contextual [IOp.reads]), r1 (x := k) (by simp +contextual [IOp.reads]), r1 (x := v) (by simp +contextual [IOp.reads])]
    cases hs : solidO st.hp (oneOf vag (v.rd st.env)) with
    | none =>
      rw [hs] at h
      unfold mupdL at h
      split at h
      · unfold mupdO at h
        split at h
        · cases ‹(none : Option (List TV × List Nat)) = some _›
        · cases h
      · cases h
    | some q =>
      obtain ⟨vc, is⟩ := q
      rw [hs] at h hw
      have hm : ∃ id, m.rd st.env = .m id := by
        unfold mupdL at h
        split at h
        · exact ⟨_, by assumption⟩
        · cases h
      obtain ⟨id, hid⟩ := hm
      have his : ∀ i ∈ is, st'.hp i = st.hp i := fun i hi => hw i (by rw [hid]; simp [fpM, fpS, hi])
      rw [solidO_eq hs his]
      exact ⟨mupd_loc h rfl hw, rfl⟩
  | mdel ks kag m k =>
    simp only [evOp, fpOp] at h hrd hw ⊢
    rw [r1 (x := m) (by simp +contextual [IOp.reads]), r1 (x := k) (by simp +contextual [IOp.reads])]
    exact ⟨mdel_loc h rfl hw, rfl⟩
  | mlen d m =>
    simp only [evOp, fpOp] at h hrd hw ⊢
    rw [r1 (x := m) fun i hi => hi]
    exact ⟨setV_loc h (by rw [mlenL_eq hrd]) hw, rfl⟩
  | bad => cases h
end
end Go.Proofs.Ytpccjkabffpnhaa.Sx
namespace Go.Proofs.Ytpccjkabffpnhaa.Sx
open Go Go.RowKit

section
variable {C : Cs} {lo : Nat} {st st' st1 : St}

theorem loc_oper {o : IOper} (hi : o.op.inn = false) (h : evOper C lo st o = some st1) (he : ∀ i ∈ o.reads, st'.env i = st.env i) (hrd : ∀ i ∈ (fpOper C lo st o).rd, st'.hp i = st.hp i) (hw : ∀ i ∈ (fpOper C lo st o).wr, st'.hp i = st.hp i) :
    evOper C lo st' o = some (patch st' st1 o.op.dst (fpOper C lo st o).wr) ∧ fpOper C lo st' o = fpOper C lo st o := by
  have hskip : ∀ {d : Option Nat}, skipK st d = some st1 → skipK st' d = some (patch st' st1 d []) := fun {d} h => by
    cases d with
    | none =>
      obtain rfl := Option.some.inj h
      refine congrArg some (St.ext' (fun i => ?_) fun i => ?_)
      · simp [patch]
      · simp [patch, patchH]
    | some d =>
      obtain rfl := Option.some.inj h
      exact congrArg some (set_loc (by simp))
  obtain ⟨op, gd⟩ := o
  cases gd with
  | none => exact loc_op hi h he hrd hw
  | some gd =>
    obtain ⟨j, want⟩ := gd
    simp only [evOper, fpOper] at h hrd hw ⊢
    rw [he j (by simp [IOper.reads])]
    have he' : ∀ i ∈ op.reads, st'.env i = st.env i := fun i hi => he i (by simp [IOper.reads, hi])
    unfold guardK at h ⊢
    split at h
    · rename_i b hb
      rw [hb] at hrd hw ⊢
      simp only [fpG] at hrd hw ⊢
      split at h
      · rename_i e
        simp only [e, if_true] at hrd hw ⊢
        exact loc_op hi h he' hrd hw
      · rename_i e
        simp only [e, if_false] at hrd hw ⊢
        exact ⟨hskip h, trivial⟩
    · rename_i hb
      rw [hb] at hrd hw ⊢
      exact ⟨hskip h, rfl⟩
    · cases h

theorem meets_false : ∀ {a b : List Nat}, meets a b = false → ∀ i ∈ a, i ∉ b
  | [], _, _, i, hi => by simp at hi
  | x :: a, b, h, i, hi => by
    simp only [meets, Bool.or_eq_false_iff] at h
    rcases List.mem_cons.1 hi with rfl | hi
    · simpa using h.1
    · exact meets_false h.2 i hi
theorem apart_ok {a b : Fp} (h : apart a b = true) : (∀ i ∈ a.wr, i ∉ b.rd) ∧ (∀ i ∈ a.wr, i ∉ b.wr) ∧ (∀ i ∈ b.wr, i ∉ a.rd) := by
  simp only [apart, Bool.and_eq_true, Bool.not_eq_true'] at h
  exact ⟨meets_false h.1.1, meets_false h.1.2, meets_false h.2⟩
theorem free2_ok {a b : IOper} (h : free2 a b = true) {d : Nat} (hd : a.op.dst = some d) : d ∉ b.reads ∧ b.op.dst ≠ some d := by
  unfold free2 at h
  rw [hd] at h
  simp only [Bool.and_eq_true, Bool.not_eq_true', bne_iff_ne] at h
  exact ⟨by simpa using h.2.1, h.2.2⟩
theorem free2_inn {a b : IOper} (h : free2 a b = true) : a.op.inn = false := by
  unfold free2 at h
  simp only [Bool.and_eq_true, Bool.not_eq_true'] at h
  exact h.1

theorem swap {p q : IOper} {s1 s2 : St} (hp : evOper C lo st p = some s1) (hq : evOper C lo s1 q = some s2) (ha : apart (fpOper C lo st p) (fpOper C lo s1 q) = true) (h1 : free2 p q = true) (h2 : free2 q p = true) :
    ∃ t1, evOper C lo st q = some t1 ∧ fpOper C lo st q = fpOper C lo s1 q ∧ evOper C lo t1 p = some s2 ∧ fpOper C lo t1 p = fpOper C lo st p := by
  obtain ⟨a1, a2, a3⟩ := apart_ok ha
  have hpp := (loc_oper (st' := st) (free2_inn h1) hp (fun _ _ => rfl) (fun _ _ => rfl) (fun _ _ => rfl)).1
  have es1 : s1 = patch st s1 p.op.dst (fpOper C lo st p).wr := Option.some.inj (hp.symm.trans hpp)
  have s1e : ∀ i, p.op.dst ≠ some i → s1.env i = st.env i := fun i hi => by rw [es1]; simp [patch, hi]
  have s1h : ∀ i, i ∉ (fpOper C lo st p).wr → s1.hp i = st.hp i := fun i hi => by rw [es1]; simp [patch, patchH, hi]
  obtain ⟨b1, b2⟩ := loc_oper (st' := st) (free2_inn h2) hq (fun i hi => (s1e i fun e => (free2_ok h1 e).1 hi).symm) (fun i hi => (s1h i fun hm => a1 i hm hi).symm) (fun i hi => (s1h i fun hm => a2 i hm hi).symm)
  have hqq := (loc_oper (st' := s1) (free2_inn h2) hq (fun _ _ => rfl) (fun _ _ => rfl) (fun _ _ => rfl)).1
  have es2 : s2 = patch s1 s2 q.op.dst (fpOper C lo s1 q).wr := Option.some.inj (hq.symm.trans hqq)
  obtain ⟨c1, c2⟩ := loc_oper (st' := patch st s2 q.op.dst (fpOper C lo s1 q).wr) (free2_inn h1) hp (fun i hi => by
    show (if q.op.dst = some i then s2.env i else st.env i) = st.env i
    rw [if_neg fun e => (free2_ok h2 e).1 hi]) (fun i hi => by
    show patchH st.hp s2.hp _ i = st.hp i
    simp only [patchH]
    rw [if_neg fun e => a3 i e hi]) (fun i hi => by
    show patchH st.hp s2.hp _ i = st.hp i
    simp only [patchH]
    rw [if_neg fun e => a2 i hi e])
  refine ⟨_, b1, b2, ?_, c2⟩
  rw [c1]
  refine congrArg some (St.ext' (fun i => ?_) fun i => ?_)
  · have e2 : s2.env i = if q.op.dst = some i then s2.env i else s1.env i := congrFun (congrArg St.env es2) i
    show (if p.op.dst = some i then s1.env i else if q.op.dst = some i then s2.env i else st.env i) = s2.env i
    by_cases hd : p.op.dst = some i
    · rw [if_pos hd, e2, if_neg (free2_ok h1 hd).2]
    · rw [if_neg hd]
      split
      · rfl
      · rename_i hq'
        rw [e2, if_neg hq', s1e i hd]
  · have e2 : s2.hp i = if i ∈ (fpOper C lo s1 q).wr then s2.hp i else s1.hp i := congrFun (congrArg St.hp es2) i
    show (if i ∈ (fpOper C lo st p).wr then s1.hp i else if i ∈ (fpOper C lo s1 q).wr then s2.hp i else st.hp i) = s2.hp i
    by_cases hd : i ∈ (fpOper C lo st p).wr
    · rw [if_pos hd, e2, if_neg (a2 i hd)]
    · rw [if_neg hd]
      split
      · rfl
      · rename_i hq'
        rw [e2, if_neg hq', s1h i hd]

structure Item where
  k : Nat
  o : IOper
  f : Fp
def Runs (C : Cs) (lo : Nat) : List Item → St → St → Prop
  | [], st, st' => st = st'
  | x :: r, st, st' => ∃ s1, evOper C lo st x.o = some s1 ∧ fpOper C lo st x.o = x.f ∧ Runs C lo r s1 st'
/-- x stands ahead of y: y waits for x, or they are apart -/
def Ind (ord : List Nat) (x y : Item) : Prop := (ord.getD y.k 0).testBit x.k = true ∨ (apart x.f y.f = true ∧ free2 x.o y.o = true ∧ free2 y.o x.o = true)

theorem bubble {x : Item} {post : List Item} : ∀ {pre : List Item} {st st' : St}, Runs C lo (pre ++ x :: post) st st' → (∀ y ∈ pre, apart y.f x.f = true ∧ free2 y.o x.o = true ∧ free2 x.o y.o = true) → Runs C lo (x :: (pre ++ post)) st st'
  | [], st, st', h, _ => h
  | y :: pre, st, st', h, ha => by
    obtain ⟨s1, h1, h2, h3⟩ := h
    obtain ⟨s2, g1, g2, g3⟩ := bubble h3 fun z hz => ha z (by simp [hz])
    obtain ⟨k1, k2, k3⟩ := ha y (by simp)
    obtain ⟨t1, e1, e2, e3, e4⟩ := swap h1 g1 (by rw [h2, g2]; exact k1) k2 k3
    exact ⟨t1, e1, e2.trans g2, s2, e3, e4.trans h2, g3⟩

def SchedOk (ord : List Nat) : List Nat → List Item → Prop
  | [], M => M = []
  | i :: s, M => ∃ pre x post, M = pre ++ x :: post ∧ x.k = i ∧ (∀ y ∈ pre, (ord.getD i 0).testBit y.k = false) ∧ SchedOk ord s (pre ++ post)

theorem sched_idx {ord : List Nat} {ios : List IOper} : ∀ {s : List Nat} {M : List Item} {st st' : St}, SchedOk ord s M → Runs C lo M st st' → M.Pairwise (Ind ord) → (∀ x ∈ M, ios[x.k]? = some x.o) → evIdx C lo ios s st = some st'
  | [], M, st, st', hs, hr, _, _ => by
    have e : M = [] := hs
    subst e
    have e : st = st' := hr
    rw [e]; rfl
  | i :: s, M, st, st', hs, hr, hp, hi => by
    obtain ⟨pre, x, post, rfl, rfl, h1, h2⟩ := hs
    have hind : ∀ y ∈ pre, Ind ord y x := fun y hy => (List.pairwise_append.1 hp).2.2 y hy x (by simp)
    obtain ⟨s1, g1, _, g3⟩ := bubble hr fun y hy => by
      rcases hind y hy with h | h
      · rw [h1 y hy] at h; cases h
      · exact h
    simp only [evIdx, hi x (by simp), g1]
    refine sched_idx h2 g3 ?_ fun y hy => hi y (by rcases List.mem_append.1 hy with h | h <;> simp [h])
    have hsub : (pre ++ post).Sublist (pre ++ x :: post) := List.Sublist.append (List.Sublist.refl _) (List.sublist_cons_self _ _)
    exact hp.sublist hsub

theorem apartAll_ok {f : Fp} {o : Nat} : ∀ {fs : List (Nat × Fp)}, apartAll f o fs = true → ∀ x ∈ fs, o.testBit x.1 = true ∨ apart x.2 f = true
  | [], _, x, hx => by simp at hx
  | (i, g) :: fs, h, x, hx => by
    simp only [apartAll, Bool.and_eq_true, Bool.or_eq_true] at h
    rcases List.mem_cons.1 hx with rfl | hx
    · exact h.1
    · exact apartAll_ok h.2 x hx
def Fp.none (f : Fp) : Prop := f.rd = [] ∧ f.wr = []
theorem meets_nil : ∀ a : List Nat, meets a [] = false
  | [] => rfl
  | x :: a => by simp [meets, meets_nil a]
theorem apart_left {f g : Fp} (h : f.none) : apart f g = true := by
  obtain ⟨a, b⟩ := f
  obtain ⟨h1, h2⟩ := h
  simp only at h1 h2
  subst h1 h2
  simp [apart, meets, meets_nil]
theorem apart_right {f g : Fp} (h : g.none) : apart f g = true := by
  obtain ⟨a, b⟩ := g
  obtain ⟨h1, h2⟩ := h
  simp only at h1 h2
  subst h1 h2
  simp [apart, meets, meets_nil]
/-- what is known behind a step -/
theorem stepD_ok {fs : List (Nat × Fp)} {i n : Nat} {k : List (Nat × Fp) → Option St → Option St} {x : Option St} {f : Fp} {r : St} (h : stepD fs i n k x f = some r) :
    ∃ fs', k fs' x = some r ∧ (f.none ∨ (i, f) ∈ fs') ∧ (∀ y ∈ fs, y ∈ fs') ∧ ∀ y ∈ fs, n.testBit y.1 = true ∨ apart y.2 f = true := by
  obtain ⟨a, b⟩ := f
  cases a with
  | nil => cases b with
    | nil => exact ⟨fs, h, .inl ⟨rfl, rfl⟩, fun _ h => h, fun y _ => .inr (apart_right ⟨rfl, rfl⟩)⟩
    | cons b w =>
      simp only [stepD, stepE] at h
      split at h
      · rename_i hh
        exact ⟨_, h, .inr (by simp), fun _ h => by simp [h], fun y hy => apartAll_ok hh y hy⟩
      · cases h
  | cons a r' =>
    simp only [stepD, stepE] at h
    split at h
    · rename_i hh
      exact ⟨_, h, .inr (by simp), fun _ h => by simp [h], fun y hy => apartAll_ok hh y hy⟩
    · cases h
theorem freeAll_ok {s : Nat} {o : IOper} : ∀ {ps : List IOper} {i : Nat}, freeAll s o i ps = true → ∀ j p, ps[j]? = some p → s.testBit (i + j) = true ∨ (free2 p o = true ∧ free2 o p = true)
  | [], _, _, j, g, hj => by simp at hj
  | x :: ps, i, h, 0, p, hj => by
    simp only [freeAll, Bool.and_eq_true, Bool.or_eq_true] at h
    simp only [List.getElem?_cons_zero, Option.some.injEq] at hj
    subst hj
    exact h.1
  | x :: ps, i, h, j + 1, p, hj => by
    simp only [freeAll, Bool.and_eq_true] at h
    have := freeAll_ok h.2 j p (by simpa using hj)
    rwa [show i + (j + 1) = i + 1 + j by omega]

theorem draw_runs {ord : List Nat} : ∀ {ios : List IOper} {os : List Oper} {k : Nat} {L : List Item} {fs : List (Nat × Fp)} {st st' : St}, evOpsD C lo ios (ord.drop k) k fs (some st) = some st' → drawOk ord k (L.map (·.o)) os ios = true →
    (∀ (i : Nat) (x : Item), L[i]? = some x → x.k = i) → L.length = k → (∀ x ∈ L, x.f.none ∨ (x.k, x.f) ∈ fs) →
    ∃ M : List Item, M.map (·.o) = ios ∧ (∀ (i : Nat) (x : Item), M[i]? = some x → x.k = k + i) ∧ Runs C lo M st st' ∧ (∀ x ∈ L, ∀ y ∈ M, Ind ord x y) ∧ M.Pairwise (Ind ord)
  | [], os, k, L, fs, st, st', h, hd, hL, hk, hfs => by
    have e : st = st' := Option.some.inj h
    exact ⟨[], rfl, by simp, e, by simp, List.Pairwise.nil⟩
  | o :: ios, [], k, L, fs, st, st', h, hd, hL, hk, hfs => by simp [drawOk] at hd
  | o :: ios, oo :: os, k, L, fs, st, st', h, hd, hL, hk, hfs => by
    cases hord : ord.drop k with
    | nil => rw [hord] at h; cases h
    | cons n rest =>
      have hn : ord.getD k 0 = n := by
        have : (ord.drop k)[0]? = some n := by rw [hord]; rfl
        rw [List.getElem?_drop] at this
        rw [List.getD_eq_getElem?_getD, show k = k + 0 by omega, this]; rfl
      have hrest : rest = ord.drop (k + 1) := by
        have : (ord.drop k).tail = rest := by rw [hord]; rfl
        rw [← this, List.tail_drop]
      rw [hord] at h
      simp only [evOpsD] at h
      obtain ⟨fs', h, hf1, hf2, hf3⟩ := stepD_ok h
      simp only [drawOk, Bool.and_eq_true] at hd
      obtain ⟨⟨_, hfree⟩, hd'⟩ := hd
      cases h1 : evOper C lo st o with
      | none => rw [h1] at h; cases ios <;> cases rest <;> cases h
      | some s1 =>
        rw [h1] at h
        rw [hrest] at h
        have hind : ∀ x ∈ L, Ind ord x ⟨k, o, fpOper C lo st o⟩ := fun x hx => by
          obtain ⟨j, hj⟩ := List.getElem?_of_mem hx
          have e := hL j x hj
          have hap : (ord.getD k 0).testBit x.k = true ∨ apart x.f (fpOper C lo st o) = true := by
            rcases hfs x hx with hz | hz
            · exact .inr (apart_left hz)
            · rw [hn]; exact hf3 _ hz
          rcases hap with h | h
          · exact .inl h
          · rcases freeAll_ok hfree j x.o (by simp [hj]) with h' | h'
            · left; simpa [e] using h'
            · exact .inr ⟨h, h'.1, h'.2⟩
        obtain ⟨M, m1, m2, m3, m4, m5⟩ := draw_runs (L := L ++ [⟨k, o, fpOper C lo st o⟩]) h (by simpa using hd') (fun i x hi => by
          by_cases hlt : i < L.length
          · rw [List.getElem?_append_left hlt] at hi; exact hL i x hi
          · rw [List.getElem?_append_right (by omega)] at hi
            have : i - L.length = 0 := by
              have := (List.getElem?_eq_some_iff.1 hi).1
              simp at this; omega
            rw [this] at hi
            simp only [List.getElem?_cons_zero, Option.some.injEq] at hi
            rw [← hi]
            show k = i
            omega) (by simp [hk]) (fun x hx => by
          rcases List.mem_append.1 hx with hx | hx
          · exact (hfs x hx).imp id (hf2 _)
          · simp only [List.mem_singleton] at hx
            subst hx
            exact hf1)
        refine ⟨⟨k, o, fpOper C lo st o⟩ :: M, by simp [m1], ?_, ⟨s1, h1, rfl, m3⟩, ?_, ?_⟩
        · intro i x hi
          cases i with
          | zero => simp only [List.getElem?_cons_zero, Option.some.injEq] at hi; rw [← hi]; rfl
          | succ i => rw [m2 i x (by simpa using hi)]; omega
        · intro x hx y hy
          rcases List.mem_cons.1 hy with rfl | hy
          · exact hind x hx
          · exact m4 x (by simp [hx]) y hy
        · exact List.Pairwise.cons (fun y hy => m4 _ (by simp) y hy) m5
end
end Go.Proofs.Ytpccjkabffpnhaa.Sx
namespace Go.Proofs.Ytpccjkabffpnhaa.Sx
open Go Go.RowKit

theorem bitsOk_ok {ws ord : List Nat} {s : Nat} : ∀ {n : Nat}, bitsOk ws ord s n = true → ∀ j < n, s.testBit j = true → j ∈ ws ∨ ∃ e ∈ ws, (ord.getD e 0).testBit j = true
  | 0, _, j, hj, _ => by omega
  | n + 1, h, j, hj, hb => by
    simp only [bitsOk, Bool.and_eq_true] at h
    by_cases e : j = n
    · subst e
      have h1 := h.1
      simp only [hb, Bool.not_true, Bool.false_or, Bool.or_eq_true] at h1
      rcases h1 with h1 | h1
      · exact .inl (by simpa using h1)
      · exact .inr (by simpa using h1)
    · exact bitsOk_ok h.2 j (by omega) hb

theorem drawOk_get {ord : List Nat} : ∀ {os : List Oper} {ios ahead : List IOper} {k : Nat}, drawOk ord k ahead os ios = true → os.length = ios.length ∧ ∀ (j : Nat) (o : Oper), os[j]? = some o →
    (∀ e ∈ waits o, e < k + j) ∧ ord.getD (k + j) 0 < 2 ^ (k + j) ∧ bitsOk (waits o) ord (ord.getD (k + j) 0) (k + j) = true
  | [], [], _, _, _ => ⟨rfl, by simp⟩
  | [], _ :: _, _, _, h => by simp [drawOk] at h
  | _ :: _, [], _, _, h => by simp [drawOk] at h
  | o :: os, i :: ios, ahead, k, h => by
    simp only [drawOk, Bool.and_eq_true] at h
    obtain ⟨⟨⟨⟨h1, h1'⟩, h2⟩, _⟩, h4⟩ := h
    obtain ⟨e, ih⟩ := drawOk_get h4
    refine ⟨by simp [e], fun j p hj => ?_⟩
    cases j with
    | zero =>
      simp only [List.getElem?_cons_zero, Option.some.injEq] at hj
      subst hj
      exact ⟨by simpa using h1, by simpa using h1', h2⟩
    | succ j =>
      have := ih j p (by simpa using hj)
      rwa [show k + 1 + j = k + (j + 1) by omega] at this

theorem testBit_lt {s k i : Nat} (h : s < 2 ^ k) (hb : s.testBit i = true) : i < k := by
  rcases Nat.lt_or_ge i k with h' | h'
  · exact h'
  · have : s < 2 ^ i := Nat.lt_of_lt_of_le h (Nat.pow_le_pow_right (by omega) h')
    rw [Nat.testBit_lt_two_pow this] at hb
    cases hb

theorem getD_set (xs : Array Bool) (i j : Nat) (b : Bool) (hi : i < xs.size) : (xs.setIfInBounds i true).getD j b = if j = i then true else xs.getD j b := by
  simp only [Array.getD_eq_getD_getElem?, Array.getElem?_setIfInBounds]
  by_cases h : i = j
  · subst h; simp [hi]
  · rw [if_neg h, if_neg fun e => h e.symm]

theorem waits_mem {o : Oper} {listed : Array Bool} : (o.after.all fun e => !Region.binds .any e || listed.getD e.on false) = true ↔ ∀ j ∈ waits o, listed.getD j false = true := by
  simp only [waits, List.mem_map, List.mem_filter, Array.all_eq_true', Bool.or_eq_true, Bool.not_eq_true', forall_exists_index, and_imp]
  constructor
  · intro h j e he hb hj
    rcases h e (by simpa using he) with h | h
    · rw [h] at hb; cases hb
    · rw [← hj]; exact h
  · intro h e he
    cases hb : Region.binds .any e with
    | false => exact .inl rfl
    | true => exact .inr (h e.on e (by simpa using he) hb rfl)

theorem go_ok {ops : Array Oper} {ord : List Nat} (hw : ∀ (j : Nat) (o : Oper), ops[j]? = some o → (∀ e ∈ waits o, e < j) ∧ ord.getD j 0 < 2 ^ j ∧ bitsOk (waits o) ord (ord.getD j 0) j = true) :
    ∀ (fuel t : Nat) (listed : Array Bool) (acc : List Nat) (M : List Item), listed.size = ops.size → (∀ j, (∃ x ∈ M, x.k = j) ↔ (j < ops.size ∧ listed.getD j true = false)) → M.Pairwise (fun x y => x.k < y.k) →
      (∀ j < ops.size, listed.getD j true = true → ∀ i, (ord.getD j 0).testBit i = true → listed.getD i true = true) → M.length ≤ fuel →
      ∃ s, Region.linearise.go .any ops fuel t listed acc = acc.reverse ++ s ∧ SchedOk ord s M
  | 0, t, listed, acc, M, _, _, _, _, hf => by
    have e : M = [] := List.eq_nil_of_length_eq_zero (by omega)
    subst e
    exact ⟨[], by simp [Region.linearise.go], rfl⟩
  | fuel + 1, t, listed, acc, M, hsz, hM, hp, hcl, hf => by
    simp only [Region.linearise.go]
    have hgd : ∀ j, j < ops.size → listed.getD j false = listed.getD j true := fun j hj => by
      simp [Array.getD_eq_getD_getElem?, hsz, hj]
    generalize hrs : ((List.range ops.size).filter fun i => !listed.getD i true && ((ops[i]?).map (·.after.all fun e => !Region.binds .any e || listed.getD e.on false)).getD false) = rs
    have hmem : ∀ i, i ∈ rs ↔ i < ops.size ∧ listed.getD i true = false ∧ ∃ o, ops[i]? = some o ∧ ∀ j ∈ waits o, listed.getD j false = true := by
      intro i
      rw [← hrs]
      simp only [List.mem_filter, List.mem_range, Bool.and_eq_true, Bool.not_eq_true']
      constructor
      · rintro ⟨h1, h2, h3⟩
        refine ⟨h1, h2, ops[i], by simp [h1], ?_⟩
        rw [show ops[i]? = some ops[i] by simp [h1]] at h3
        simpa using waits_mem.1 (by simpa using h3)
      · rintro ⟨h1, h2, o, h3, h4⟩
        refine ⟨h1, h2, ?_⟩
        rw [h3]
        simpa using waits_mem.2 h4
    cases M with
    | nil =>
      have : rs = [] := List.eq_nil_iff_forall_not_mem.2 fun i hi => by
        obtain ⟨h1, h2, _⟩ := (hmem i).1 hi
        obtain ⟨x, hx, _⟩ := (hM i).2 ⟨h1, h2⟩
        simp at hx
      rw [this]
      exact ⟨[], by simp, rfl⟩
    | cons x0 M' =>
      have hx0 := (hM x0.k).1 ⟨x0, by simp, rfl⟩
      have hmin : ∀ j < x0.k, listed.getD j true = true := fun j hj => by
        cases hl : listed.getD j true with
        | true => rfl
        | false =>
          obtain ⟨y, hy, e⟩ := (hM j).2 ⟨by omega, hl⟩
          rcases List.mem_cons.1 hy with rfl | hy
          · omega
          · have := (List.pairwise_cons.1 hp).1 y hy
            omega
      have hin : x0.k ∈ rs := (hmem _).2 ⟨hx0.1, hx0.2, ops[x0.k]'hx0.1, by simp [hx0.1], fun j hj => by
        have hlt := (hw x0.k _ (by simp [hx0.1])).1 j hj
        rw [hgd j (by omega)]
        exact hmin j hlt⟩
      have hpos : 0 < rs.length := List.length_pos_of_mem hin
      have hlt := Nat.mod_lt t hpos
      obtain ⟨i, hi⟩ : ∃ i, rs[t % rs.length]? = some i := ⟨_, List.getElem?_eq_getElem hlt⟩
      rw [hi]
      simp only
      obtain ⟨hi1, hi2, o, ho, hi3⟩ := (hmem i).1 (List.mem_of_getElem? hi)
      obtain ⟨x, hx, hxk⟩ := (hM i).2 ⟨hi1, hi2⟩
      obtain ⟨pre, post, hsp⟩ := List.append_of_mem hx
      obtain ⟨hwo, hwlt, hwb⟩ := hw i o ho
      have hbits : ∀ b, (ord.getD i 0).testBit b = true → listed.getD b true = true := fun b hb => by
        have hbl := testBit_lt hwlt hb
        rcases bitsOk_ok hwb b hbl hb with h | ⟨e, he, h⟩
        · rw [← hgd b (by omega)]; exact hi3 b h
        · have := hwo e he
          exact hcl e (by omega) (by rw [← hgd e (by omega)]; exact hi3 e he) b h
      rw [hsp] at hM hp hf
      have hpp := List.pairwise_append.1 hp
      have hpre : ∀ y ∈ pre, y.k < i := fun y hy => hxk ▸ hpp.2.2 y hy x (by simp)
      have hpost : ∀ y ∈ post, i < y.k := fun y hy => hxk ▸ (List.pairwise_cons.1 hpp.2.1).1 y hy
      have hset : ∀ j b, (listed.setIfInBounds i true).getD j b = if j = i then true else listed.getD j b := fun j b => getD_set listed i j b (by omega)
      obtain ⟨s, hs1, hs2⟩ := go_ok hw fuel (t / rs.length) (listed.setIfInBounds i true) (i :: acc) (pre ++ post) (by simp [hsz]) (fun j => by
        rw [hset]
        constructor
        · rintro ⟨y, hy, rfl⟩
          have hne : y.k ≠ i := by
            rcases List.mem_append.1 hy with h | h
            · exact Nat.ne_of_lt (hpre y h)
            · exact Nat.ne_of_gt (hpost y h)
          rw [if_neg hne]
          exact (hM y.k).1 ⟨y, by rcases List.mem_append.1 hy with h | h <;> simp [h], rfl⟩
        · rintro ⟨h1, h2⟩
          by_cases e : j = i
          · rw [if_pos e] at h2; cases h2
          · rw [if_neg e] at h2
            obtain ⟨y, hy, rfl⟩ := (hM j).2 ⟨h1, h2⟩
            refine ⟨y, ?_, rfl⟩
            rcases List.mem_append.1 hy with h | h
            · simp [h]
            · rcases List.mem_cons.1 h with rfl | h
              · exact absurd hxk e
              · simp [h]) (hp.sublist (List.Sublist.append (List.Sublist.refl _) (List.sublist_cons_self _ _))) (fun j hj hl b hb => by
        rw [hset] at hl ⊢
        split
        · rfl
        · by_cases e : j = i
          · subst e; exact hbits b hb
          · rw [if_neg e] at hl; exact hcl j hj hl b hb) (by
        simp only [List.length_append, List.length_cons] at hf ⊢; omega)
      refine ⟨i :: s, by rw [hs1]; simp, pre, x, post, hsp, hxk, fun y hy => ?_, hs2⟩
      cases hb : (ord.getD i 0).testBit y.k with
      | false => rfl
      | true =>
        have h1 := hbits _ hb
        have h2 := ((hM y.k).1 ⟨y, by simp [hy], rfl⟩).2
        rw [h1] at h2; cases h2

section
variable {C : Cs} {lo : Nat} {st st' : St}

theorem draw_idx {ops : Array Oper} {ios : List IOper} {ord : List Nat} (h : evOpsD C lo ios ord 0 [] (some st) = some st') (hd : drawOk ord 0 [] ops.toList ios = true) (t : Nat) :
    evIdx C lo ios (Region.schedule true ops t) st = some st' := by
  obtain ⟨M, m1, m2, m3, _, m5⟩ := draw_runs (L := []) (fs := []) (k := 0) (by simpa using h) (by simpa using hd) (by simp) rfl (by simp)
  obtain ⟨hlen, hget⟩ := drawOk_get hd
  have hML : M.length = ops.size := by rw [← List.length_map (f := Item.o), m1, ← hlen]; simp
  have hmem : ∀ x ∈ M, ∃ i : Nat, M[i]? = some x ∧ x.k = i := fun x hx => by
    obtain ⟨i, hi⟩ := List.getElem?_of_mem hx
    exact ⟨i, hi, by simpa using m2 i x hi⟩
  obtain ⟨s, hs1, hs2⟩ := go_ok (ops := ops) (ord := ord) (fun j o ho => by simpa using hget j o (by simpa using ho)) ops.size t (Array.replicate ops.size false) [] M (by simp) (fun j => by
    constructor
    · rintro ⟨x, hx, rfl⟩
      obtain ⟨i, hi, e⟩ := hmem x hx
      have := (List.getElem?_eq_some_iff.1 hi).1
      refine ⟨by omega, ?_⟩
      simp [Array.getD_eq_getD_getElem?, e, show i < ops.size by omega]
    · rintro ⟨h1, _⟩
      refine ⟨M[j]'(by omega), by simp, ?_⟩
      simpa using m2 j _ (List.getElem?_eq_getElem (by omega))) (by
    rw [List.pairwise_iff_getElem]
    intro i j hi hj hlt
    rw [show (M[i]).k = i by simpa using m2 i _ (List.getElem?_eq_getElem hi), show (M[j]).k = j by simpa using m2 j _ (List.getElem?_eq_getElem hj)]
    exact hlt) (fun j hj hl => by
    simp [Array.getD_eq_getD_getElem?, hj] at hl) (by omega)
  have e : Region.schedule true ops t = s := by
    simp only [Region.schedule, Bool.true_or, if_true, Region.linearise]
    rw [hs1]; rfl
  rw [e]
  refine sched_idx hs2 m3 m5 fun x hx => ?_
  obtain ⟨i, hi, e⟩ := hmem x hx
  rw [e, ← m1]
  simp [hi]
end
end Go.Proofs.Ytpccjkabffpnhaa.Sx
namespace Go.Proofs.Ytpccjkabffpnhaa.Sx
open Go Go.RowKit

theorem nodup_ok : ∀ {l : List Nat}, nodup l = true → l.Nodup
  | [], _ => List.nodup_nil
  | a :: r, h => by
    simp only [nodup, Bool.and_eq_true, Bool.not_eq_true'] at h
    exact List.nodup_cons.2 ⟨by simpa using h.1, nodup_ok h.2⟩

section
variable {N : Rm} {w0 : World} {ok0 : Nat → Prop} {ok : Nat → Prop} {a : Act} {w : World} {st : St} {ρ : Rho} {lo : Nat}

def keepRho (lo : Nat) (ρ : Rho) : List (Nat × Nat) → Rho
  | [] => fun n => if n < lo then ρ n else none
  | (a, b) :: r => upd (keepRho lo ρ r) (lo + b) (ρ (lo + a))

/-- old i is now n -/
def Now (lo : Nat) (j : List (Nat × Nat)) (h : Hp) (ρ : Rho) (r : List (Nat × Nat)) (i n : Nat) : Prop := keepHp lo j h r n = maskO lo j (h i) ∧ keepRho lo ρ r n = ρ i

theorem lk_list : ∀ {r : List (Nat × Nat)} {i n : Nat}, lk lo i r = some n → (i < lo ∧ n = i) ∨ ∃ x ∈ r, lo + x.1 = i ∧ lo + x.2 = n
  | [], i, n, h => by
    simp only [lk] at h
    split at h
    · exact .inl ⟨by assumption, (Option.some.inj h).symm⟩
    · cases h
  | (a, b) :: r, i, n, h => by
    simp only [lk] at h
    split at h
    · exact .inr ⟨(a, b), by simp, by assumption, Option.some.inj h⟩
    · rcases lk_list h with h | ⟨x, hx, h1⟩
      · exact .inl h
      · exact .inr ⟨x, by simp [hx], h1⟩
theorem keepLo_eq (j : List (Nat × Nat)) (h : Hp) (lo n : Nat) : keepLo j h lo n = if n < lo then maskO lo j (h n) else none := by
  cases lo with
  | zero => simp [keepLo, h0]
  | succ lo => rfl
theorem now_lo {j : List (Nat × Nat)} {h : Hp} : ∀ {r : List (Nat × Nat)} {i : Nat}, i < lo → Now lo j h ρ r i i
  | [], i, hi => ⟨by simp only [keepHp, keepLo_eq, hi, if_true], by simp [keepRho, hi]⟩
  | (a, b) :: r, i, hi => by
    have ih := now_lo (j := j) (h := h) (r := r) hi
    exact ⟨by simp only [keepHp]; rw [upd_ne _ _ (by omega)]; exact ih.1, by simp only [keepRho]; rw [upd_ne _ _ (by omega)]; exact ih.2⟩
theorem now_mem {j : List (Nat × Nat)} {h : Hp} : ∀ {r : List (Nat × Nat)}, (r.map (·.2)).Nodup → ∀ x ∈ r, Now lo j h ρ r (lo + x.1) (lo + x.2)
  | [], _, x, hx => by simp at hx
  | (a, b) :: r, hn, x, hx => by
    simp only [List.map_cons, List.nodup_cons] at hn
    rcases List.mem_cons.1 hx with rfl | hx
    · exact ⟨by simp only [keepHp, upd_same], by simp only [keepRho, upd_same]⟩
    · have ih := now_mem (j := j) (h := h) hn.2 x hx
      have hne : lo + x.2 ≠ lo + b := fun e => hn.1 (by rw [show b = x.2 by omega]; exact List.mem_map.2 ⟨x, hx, rfl⟩)
      exact ⟨by simp only [keepHp]; rw [upd_ne _ _ hne]; exact ih.1, by simp only [keepRho]; rw [upd_ne _ _ hne]; exact ih.2⟩
theorem now_lk {j : List (Nat × Nat)} (hj : (j.map (·.2)).Nodup) {h : Hp} {i n : Nat} (e : lk lo i j = some n) : Now lo j h ρ j i n := by
  rcases lk_list e with ⟨h1, rfl⟩ | ⟨x, hx, rfl, rfl⟩
  · exact now_lo h1
  · exact now_mem hj x hx
theorem now_inv {j : List (Nat × Nat)} {h : Hp} : ∀ {r : List (Nat × Nat)} {n : Nat} {o : Ob}, keepHp lo j h r n = some o → (n < lo ∧ Now lo j h ρ r n n) ∨ ∃ x ∈ r, lo + x.2 = n ∧ Now lo j h ρ r (lo + x.1) n
  | [], n, o, e => by
    simp only [keepHp, keepLo_eq] at e
    split at e
    · exact .inl ⟨by assumption, now_lo (by assumption)⟩
    · cases e
  | (a, b) :: r, n, o, e => by
    by_cases hn : n = lo + b
    · subst hn
      exact .inr ⟨(a, b), by simp, rfl, by simp only [keepHp, upd_same], by simp only [keepRho, upd_same]⟩
    · simp only [keepHp] at e
      rw [upd_ne _ _ hn] at e
      rcases now_inv e with ⟨h1, h2⟩ | ⟨x, hx, h1, h2⟩
      · exact .inl ⟨h1, by simp only [keepHp]; rw [upd_ne _ _ hn]; exact h2.1, by simp only [keepRho]; rw [upd_ne _ _ hn]; exact h2.2⟩
      · exact .inr ⟨x, by simp [hx], h1, by simp only [keepHp]; rw [upd_ne _ _ hn]; exact h2.1, by simp only [keepRho]; rw [upd_ne _ _ hn]; exact h2.2⟩
theorem lk_of_mem : ∀ {r : List (Nat × Nat)}, (r.map (·.1)).Nodup → ∀ x ∈ r, lk lo (lo + x.1) r = some (lo + x.2)
  | [], _, x, hx => by simp at hx
  | (a, b) :: r, hn, x, hx => by
    simp only [List.map_cons, List.nodup_cons] at hn
    rcases List.mem_cons.1 hx with rfl | hx
    · simp [lk]
    · have hne : lo + a ≠ lo + x.1 := fun e => hn.1 (by rw [show a = x.1 by omega]; exact List.mem_map.2 ⟨x, hx, rfl⟩)
      simp only [lk, hne, if_false]
      exact lk_of_mem hn.2 x hx
theorem lk_lo : ∀ {r : List (Nat × Nat)} {i : Nat}, i < lo → lk lo i r = some i
  | [], i, h => by simp [lk, h]
  | (a, b) :: r, i, h => by simp only [lk]; rw [if_neg (by omega)]; exact lk_lo h

/-- the relations, behind the renaming -/
structure Ren (lo : Nat) (j : List (Nat × Nat)) (h h' : Hp) (ρ ρ' : Rho) : Prop where
  at' : ∀ i n, lk lo i j = some n → h' n = maskO lo j (h i) ∧ ρ' n = ρ i

theorem maskC_ok {j : List (Nat × Nat)} {h h' : Hp} {ρ ρ' : Rho} (R : Ren lo j h h' ρ ρ') {l : LV} {x : Value} (hl : LRep w ok ρ h l x) : LRep w ok ρ' h' (maskC lo j l) x := by
  unfold maskC
  split
  · rename_i id off
    cases e : lk lo id j with
    | none => simp only [renP, LRep]
    | some n =>
      obtain ⟨h1, h2⟩ := R.at' _ _ e
      simp only [renP, LRep] at hl ⊢
      rw [h1]
      cases ho : h id with
      | none => rw [ho] at hl; exact hl.elim
      | some o =>
        rw [ho] at hl
        cases o with
        | var f cs => simp only [PRep] at hl; simp only [maskO, PRep]; rwa [h2]
        | arr f e sz rows => exact hl.elim
        | map f k v es => exact hl.elim
        | dead => exact hl
  · rename_i id r off
    cases e : lk lo id j with
    | none => simp only [renE, LRep]
    | some n =>
      obtain ⟨h1, h2⟩ := R.at' _ _ e
      simp only [renE, LRep] at hl ⊢
      rw [h1]
      cases ho : h id with
      | none => rw [ho] at hl; exact hl.elim
      | some o =>
        rw [ho] at hl
        cases o with
        | var f cs => exact hl.elim
        | arr f e sz rows => simp only [ERep] at hl; simp only [maskO, ERep]; rwa [h2]
        | map f k v es => exact hl.elim
        | dead => exact hl
  · rename_i id off len
    cases e : lk lo id j with
    | none => simp only [renS, LRep]
    | some n =>
      obtain ⟨h1, h2⟩ := R.at' _ _ e
      simp only [renS, LRep] at hl ⊢
      rw [h1]
      cases ho : h id with
      | none => rw [ho] at hl; exact hl.elim
      | some o =>
        rw [ho] at hl
        cases o with
        | var f cs => exact hl.elim
        | arr f e sz rows => simp only [SRep] at hl; simp only [maskO, SRep]; rwa [h2]
        | map f k v es => exact hl.elim
        | dead => exact hl
  · rename_i id
    cases e : lk lo id j with
    | none => simp only [renM, LRep]
    | some n =>
      obtain ⟨h1, h2⟩ := R.at' _ _ e
      simp only [renM, LRep] at hl ⊢
      rw [h1]
      cases ho : h id with
      | none => rw [ho] at hl; exact hl.elim
      | some o =>
        rw [ho] at hl
        cases o with
        | var f cs => exact hl.elim
        | arr f e sz rows => exact hl.elim
        | map f k v es => simp only [MRep] at hl; simp only [maskO, MRep]; rwa [h2]
        | dead => exact hl
  · simp only [LRep] at hl ⊢; exact hl
  · simp only [LRep, LReps] at hl ⊢; exact hl
  · simp only [LRep]
theorem maskCs_ok {j : List (Nat × Nat)} {h h' : Hp} {ρ ρ' : Rho} (R : Ren lo j h h' ρ ρ') {one : Bool} : ∀ {ls : List LV} {xs : List Value}, LReps w ok ρ h one ls xs → LReps w ok ρ' h' one (maskCs lo j ls) xs
  | [], xs, hx => by simpa only [LReps, maskCs] using hx
  | l :: ls, xs, hx => by
    simp only [LReps, maskCs] at hx ⊢
    obtain ⟨v, r, h1, h2, h3, h4⟩ := hx
    exact ⟨v, r, h1, h2, maskC_ok R h3, maskCs_ok R h4⟩
theorem mask2_ok {j : List (Nat × Nat)} {h h' : Hp} {ρ ρ' : Rho} (R : Ren lo j h h' ρ ρ') {one : Bool} : ∀ {ls : List LV} {xs : List Value}, LReps w ok ρ h one ls xs → LReps w ok ρ' h' one (mask2 lo j ls) xs
  | [], xs, hx => by simpa only [LReps, mask2] using hx
  | l :: ls, xs, hx => by
    simp only [LReps] at hx
    obtain ⟨v, r, h1, h2, h3, h4⟩ := hx
    have ih := mask2_ok R h4
    unfold mask2
    split
    · rename_i e; cases e
    · rename_i cs ls' e
      obtain ⟨rfl, rfl⟩ := List.cons.inj e
      simp only [LRep] at h3
      obtain ⟨vs, k1, k2⟩ := h3
      simp only [LReps]
      exact ⟨v, r, h1, h2, by simp only [LRep]; exact ⟨vs, k1, maskCs_ok R k2⟩, ih⟩
    · rename_i c ls' _ e
      obtain ⟨rfl, rfl⟩ := List.cons.inj e
      simp only [LReps]
      exact ⟨v, r, h1, h2, maskC_ok R h3, ih⟩
theorem maskL_ok {j : List (Nat × Nat)} {h h' : Hp} {ρ ρ' : Rho} (R : Ren lo j h h' ρ ρ') {l : LV} {x : Value} (hl : LRep w ok ρ h l x) : LRep w ok ρ' h' (maskL lo j l) x := by
  unfold maskL
  split
  · simp only [LRep] at hl ⊢
    obtain ⟨vs, k1, k2⟩ := hl
    exact ⟨vs, k1, maskCs_ok R k2⟩
  · simp only [LRep] at hl ⊢
    obtain ⟨vs, k1, k2⟩ := hl
    exact ⟨vs, k1, maskCs_ok R k2⟩
  · simp only [LRep] at hl ⊢
    obtain ⟨vs, k1, k2⟩ := hl
    exact ⟨vs, k1, mask2_ok R k2⟩
  · exact maskC_ok R hl
theorem maskO_own {j : List (Nat × Nat)} {x : Option Ob} {o' : Ob} (h : maskO lo j x = some o') : ∃ o, x = some o ∧ o'.own = o.own ∧ o'.live = o.live := by
  unfold maskO at h
  split at h
  · obtain rfl := Option.some.inj h; exact ⟨_, rfl, rfl, rfl⟩
  · obtain rfl := Option.some.inj h; exact ⟨_, rfl, rfl, rfl⟩
  · obtain rfl := Option.some.inj h; exact ⟨_, rfl, rfl, rfl⟩
  · obtain rfl := Option.some.inj h; exact ⟨_, rfl, rfl, rfl⟩
  · cases h
theorem keepEnv_ok {j : List (Nat × Nat)} {e : Nat → LV} (k : Nat) : ∀ {ks : List Nat}, keepEnv lo j e ks k = .u ∨ keepEnv lo j e ks k = maskL lo j (e k)
  | [] => .inl rfl
  | s :: ks => by
    simp only [keepEnv]
    by_cases h : k = s
    · subst h; rw [upd_same]; exact .inr rfl
    · rw [upd_ne _ _ h]; exact keepEnv_ok k

theorem Gam.gc (g : Gam N w0 ok0 st ok ρ a w) {G : GC} (hG : G.ok = true) (hst : ∀ k, maskL lo G.ids (N.gh k).1 = (N.gh k).1) : Gam N w0 ok0 (G.run lo st) ok (keepRho lo ρ G.ids) a w := by
  simp only [GC.ok, Bool.and_eq_true] at hG
  have n1 := nodup_ok hG.1
  have n2 := nodup_ok hG.2
  have R : Ren lo G.ids st.hp (keepHp lo G.ids st.hp G.ids) ρ (keepRho lo ρ G.ids) := ⟨fun i n e => now_lk n2 e⟩
  have inv : ∀ n o', keepHp lo G.ids st.hp G.ids n = some o' → ∃ i o, st.hp i = some o ∧ maskO lo G.ids (some o) = some o' ∧ o'.own = o.own ∧ o'.live = o.live ∧ keepRho lo ρ G.ids n = ρ i ∧ lk lo i G.ids = some n := by
    intro n o' h
    have fin : ∀ i, Now lo G.ids st.hp ρ G.ids i n → lk lo i G.ids = some n → ∃ i o, st.hp i = some o ∧ maskO lo G.ids (some o) = some o' ∧ o'.own = o.own ∧ o'.live = o.live ∧ keepRho lo ρ G.ids n = ρ i ∧ lk lo i G.ids = some n := by
      intro i hn e
      have hm : maskO lo G.ids (st.hp i) = some o' := by rw [← hn.1]; exact h
      obtain ⟨o, ho, k1, k2⟩ := maskO_own hm
      exact ⟨i, o, ho, by rw [← ho]; exact hm, k1, k2, hn.2, e⟩
    rcases now_inv (ρ := ρ) h with ⟨h1, h2⟩ | ⟨x, hx, rfl, h2⟩
    · exact fin n h2 (lk_lo h1)
    · exact fin _ h2 (lk_of_mem n1 x hx)
  refine { below := g.below, old := g.old, size := g.size, defers := g.defers, free := ?_, inj := ?_, fresh := ?_, obj := ?_, env := fun k => ?_, kept := g.kept, gh := fun k => by
              have := maskL_ok (w := w) (ok := ok) R (g.gh k)
              rwa [hst k] at this, res := fun b o h => ⟨(g.res b o h).1, (g.res b o h).2.1, (g.res b o h).2.2.1, fun n p K hn hl hr => by
                obtain ⟨i, q, k1, _, _, k4, k5, _⟩ := inv n p hn
                exact (g.res b o h).2.2.2 i q K k1 (k4 ▸ hl) (k5 ▸ hr)⟩ }
  · intro b hb
    refine ⟨(g.free b hb).1, fun n o' K ho hown => ?_⟩
    obtain ⟨i, o, k1, _, k3, _, k5, _⟩ := inv n o' ho
    rw [k5]
    exact (g.free b hb).2 i o K k1 (k3 ▸ hown)
  · intro n n' o o' b K K' hn hn' hl hl' hr hr'
    obtain ⟨i, p, k1, _, _, k4, k5, k6⟩ := inv n o hn
    obtain ⟨i', p', l1, _, _, l4, l5, l6⟩ := inv n' o' hn'
    have := g.inj i i' p p' b K K' k1 l1 (k4 ▸ hl) (l4 ▸ hl') (k5 ▸ hr) (l5 ▸ hr')
    subst this
    exact Option.some.inj (k6.symm.trans l6)
  · intro n o b K hn hl hr
    obtain ⟨i, p, k1, _, _, k4, k5, _⟩ := inv n o hn
    exact g.fresh i p b K k1 (k4 ▸ hl) (k5 ▸ hr)
  · intro n o' hn
    obtain ⟨i, p, k1, k2, _, _, k5, _⟩ := inv n o' hn
    have hob := g.obj i p k1
    cases p with
    | dead =>
      obtain rfl := Option.some.inj k2
      trivial
    | var f cs =>
      obtain rfl := Option.some.inj k2
      obtain ⟨b, K, cur, ty, h1, h2, h3⟩ := hob
      exact ⟨b, K, cur, ty, by rw [k5]; exact h1, h2, maskCs_ok R h3⟩
    | arr f e sz rows =>
      obtain rfl := Option.some.inj k2
      rcases hob with ⟨h1, h2⟩ | ⟨b, K, cur, h1, h2⟩
      · exact .inl ⟨by rw [k5]; exact h1, h2⟩
      · exact .inr ⟨b, K, cur, by rw [k5]; exact h1, h2⟩
    | map f kag vag ents =>
      obtain rfl := Option.some.inj k2
      obtain ⟨b, K, es, clock, h1, h2⟩ := hob
      exact ⟨b, K, es, clock, by rw [k5]; exact h1, h2⟩
  · rcases keepEnv_ok (lo := lo) (j := G.ids) (e := st.env) k (ks := G.slots) with h | h
    · show LRep w ok _ _ (keepEnv lo G.ids st.env G.slots k) _
      rw [h]; simp only [LRep]
    · show LRep w ok _ _ (keepEnv lo G.ids st.env G.slots k) _
      rw [h]; exact maskL_ok R (g.env k)
end
end Go.Proofs.Ytpccjkabffpnhaa.Sx
namespace Go.Proofs.Ytpccjkabffpnhaa.Sx
open Go Go.RowKit
section
variable {P : Program} {N : Rm} {w0 : World} {ok0 : Nat → Prop} {st : St} {ok : Nat → Prop} {ρ : Rho} {a : Act} {w : World}

def Rm.with (N : Rm) (b : Nat) (o : Obj) : Rm := { N with res := upd N.res b (some o) }
theorem with_at (N : Rm) (b : Nat) (o : Obj) : (N.with b o).res b = some o := upd_same _ _ _
theorem with_ne (N : Rm) {b c : Nat} (o : Obj) (h : c ≠ b) : (N.with b o).res c = N.res c := upd_ne _ _ h

/-- a new block, for nobody else -/
theorem Gam.reserve (g : Gam N w0 ok0 st ok ρ a w) (o : Obj) : Gam (N.with w.heap.size o) w0 ok0 st ok ρ a (w.alloc o) := by
  have g1 := g.world (below_alloc w o)
  refine { below := g1.below, old := g1.old, size := g1.size, defers := g1.defers, free := g1.free, inj := g1.inj, fresh := g1.fresh, obj := g1.obj, env := g1.env, kept := g1.kept, gh := g1.gh, res := fun b p h => ?_ }
  by_cases e : b = w.heap.size
  · subst e
    rw [with_at] at h
    obtain rfl := Option.some.inj h
    exact ⟨g.below.size, World.alloc_heap_new w _, fun ho => Nat.lt_irrefl _ (g.free _ ho).1, fun i q K hi hl hr => Nat.lt_irrefl _ (g.fresh i q _ K hi hl hr).2⟩
  · rw [with_ne _ _ e] at h
    exact g1.res b p h
/-- it is turned -/
theorem Gam.reput (g : Gam N w0 ok0 st ok ρ a w) {b : Nat} {o : Obj} (hb : N.res b = some o) (o' : Obj) : Gam (N.with b o') w0 ok0 st ok ρ a (w.putObj b o') := by
  obtain ⟨h1, h2, h3, h4⟩ := g.res b o hb
  have hlt : b < w.heap.size := (Array.getElem?_eq_some_iff.1 h2).1
  have hother : ∀ k, k ≠ b → (w.putObj b o').heap[k]? = w.heap[k]? := fun k hk => World.putObj_heap_other hk
  have hs : Same w (w.putObj b o') ok ok := fun k hk => ⟨hother k (fun e => h3 (e ▸ hk)), hk⟩
  have hl := Later.refl ρ st.hp
  refine { below := ?_, old := g.old, size := g.size, defers := g.defers, free := ?_, inj := g.inj, fresh := ?_, obj := ?_, env := fun k => (g.env k).to hs hl, kept := g.kept, gh := fun k => (g.gh k).to hs hl, res := ?_ }
  · exact g.below.trans ⟨rfl, rfl, rfl, by simp, fun k hk => hother k (by omega)⟩
  · intro c hc
    exact ⟨by simpa using (g.free c hc).1, (g.free c hc).2⟩
  · intro i p c K hi hl hr
    exact ⟨(g.fresh i p c K hi hl hr).1, by simpa using (g.fresh i p c K hi hl hr).2⟩
  · intro i p hi
    cases hlv : p.live with
    | false => cases p with
      | dead => trivial
      | var f cs => simp [Ob.live] at hlv
      | arr f e sz rows => simp [Ob.live] at hlv
      | map f k v es => simp [Ob.live] at hlv
    | true => exact (g.obj i p hi).to hs hl rfl fun c K hc => hother c fun e => by subst e; exact h4 i p K hi hlv hc
  · intro c p h
    by_cases e : c = b
    · subst e
      rw [with_at] at h
      obtain rfl := Option.some.inj h
      exact ⟨h1, World.putObj_heap_same hlt, h3, h4⟩
    · rw [with_ne _ _ e] at h
      obtain ⟨k1, k2, k3, k4⟩ := g.res c p h
      exact ⟨k1, (hother c e).trans k2, k3, k4⟩

/-- held to less -/
theorem Gam.less (g : Gam N w0 ok0 st ok ρ a w) {M : Rm} (hn : M.n = N.n) (hd : M.ds = N.ds) (hK : ∀ s, M.K s = true → a.tmps.getD s undef = M.T s) (hg : ∀ k, LRep w ok ρ st.hp (M.gh k).1 (M.gh k).2) (hr : ∀ b o, M.res b = some o → N.res b = some o) : Gam M w0 ok0 st ok ρ a w :=
  { below := g.below, old := g.old, size := by rw [hn]; exact g.size, defers := by rw [hd]; exact g.defers, free := g.free, inj := g.inj, fresh := g.fresh, obj := g.obj, env := g.env, kept := hK, gh := hg, res := fun b o h => g.res b o (hr b o h) }
/-- in another frame -/
theorem Gam.frame (g : Gam N w0 ok0 st ok ρ a w) {M : Rm} {env : Nat → LV} {b : Act} (hn : b.tmps.size = M.n) (hd : b.defers = M.ds) (hK : ∀ s, M.K s = true → b.tmps.getD s undef = M.T s) (hg : ∀ k, LRep w ok ρ st.hp (M.gh k).1 (M.gh k).2)
    (he : ∀ k, LRep w ok ρ st.hp (env k) (b.tmps.getD k undef)) (hr : ∀ b o, M.res b = some o → N.res b = some o) : Gam M w0 ok0 ⟨env, st.hp⟩ ok ρ b w :=
  { below := g.below, old := g.old, size := hn, defers := hd, free := g.free, inj := g.inj, fresh := g.fresh, obj := g.obj, env := he, kept := hK, gh := hg, res := fun b o h => g.res b o (hr b o h) }
end

/-- the carried values behind the slots of a caller -/
def ghosts (env : Nat → LV) (a : Act) (gh : Nat → LV × Value) (k : Nat) : LV × Value := if k % 2 = 0 then (env (k / 2), a.tmps.getD (k / 2) undef) else gh (k / 2)
theorem ghosts_env (env : Nat → LV) (a : Act) (gh : Nat → LV × Value) (k : Nat) : ghosts env a gh (2 * k) = (env k, a.tmps.getD k undef) := by
  unfold ghosts
  rw [if_pos (by omega), show 2 * k / 2 = k by omega]
theorem ghosts_gh (env : Nat → LV) (a : Act) (gh : Nat → LV × Value) (k : Nat) : ghosts env a gh (2 * k + 1) = gh k := by
  unfold ghosts
  rw [if_neg (by omega), show (2 * k + 1) / 2 = k by omega]
theorem bindL_eq : ∀ (ls : List LV) (k i : Nat), bindL k ls i = if k ≤ i then (match ls[i - k]? with | some l => l | none => .u) else .u
  | [], k, i => by simp [bindL, e0]
  | l :: ls, k, i => by
    simp only [bindL, upd]
    by_cases e : i = k
    · subst e; simp
    · rw [if_neg e, bindL_eq ls (k + 1) i]
      by_cases hk : k ≤ i
      · rw [if_pos hk, if_pos (by omega), show i - k = (i - (k + 1)) + 1 by omega, List.getElem?_cons_succ]
      · rw [if_neg hk, if_neg (by omega)]

/-! ### marks -/
section
variable {P : Program} {w0 : World} {ok0 : Nat → Prop}
/-- the marks that ranges over functions leave, in blocks that N0 knows nothing of -/
def marksOk (N0 N : Rm) : List Deferred → Prop
  | [] => True
  | d :: ds => (∃ D, d = { target := .collected D, args := #[] } ∧ N0.res D = none ∧ N.res D = some (.deferred (some [])) ∧ ∀ d' ∈ ds, d' ≠ { target := .collected D, args := #[] }) ∧ marksOk N0 N ds
theorem marks_with {N0 N : Rm} {D : Nat} {o : Obj} : ∀ {ds : List Deferred}, marksOk N0 N ds → (∀ d ∈ ds, d ≠ { target := .collected D, args := #[] }) → marksOk N0 (N.with D o) ds
  | [], _, _ => trivial
  | d :: ds, h, hne => by
    obtain ⟨⟨E, rfl, h1, h2, h3⟩, h4⟩ := h
    refine ⟨⟨E, rfl, h1, ?_, h3⟩, marks_with h4 fun d hd => hne d (by simp [hd])⟩
    rw [with_ne]
    · exact h2
    · intro e; subst e; exact hne _ (by simp) rfl
theorem marks_up {N0 N N' : Rm} (hs : ∀ b o, N.res b = some o → N'.res b = some o) : ∀ {ds : List Deferred}, marksOk N0 N ds → marksOk N0 N' ds
  | [], _ => trivial
  | d :: ds, h => by
    obtain ⟨⟨E, rfl, h1, h2, h3⟩, h4⟩ := h
    exact ⟨⟨E, rfl, h1, hs _ _ h2, h3⟩, marks_up hs h4⟩
theorem marks_down {N0 N1 N : Rm} (hs : ∀ b, N1.res b = none → N0.res b = none) : ∀ {ds : List Deferred}, marksOk N1 N ds → marksOk N0 N ds
  | [], _ => trivial
  | d :: ds, h => by
    obtain ⟨⟨E, rfl, h1, h2, h3⟩, h4⟩ := h
    exact ⟨⟨E, rfl, hs _ h1, h2, h3⟩, marks_down hs h4⟩
theorem marks_some {N0 N : Rm} {D : Nat} : ∀ {ds : List Deferred}, marksOk N0 N ds → { target := .collected D, args := #[] } ∈ ds → N.res D = some (.deferred (some []))
  | [], _, hm => by simp at hm
  | d :: ds, h, hm => by
    obtain ⟨⟨E, rfl, h1, h2, h3⟩, h4⟩ := h
    rcases List.mem_cons.1 hm with e | hm
    · cases e; exact h2
    · exact marks_some h4 hm
theorem marks_append {N0 N : Rm} : ∀ {es bs : List Deferred}, marksOk N0 N es → marksOk N0 N bs → (∀ a ∈ es, a ∉ bs) → marksOk N0 N (es ++ bs)
  | [], _, _, hb, _ => hb
  | d :: ds, bs, h, hb, hd => by
    obtain ⟨⟨E, rfl, h1, h2, h3⟩, h4⟩ := h
    refine ⟨⟨E, rfl, h1, h2, fun d' hm => ?_⟩, marks_append h4 hb fun a ha => hd a (by simp [ha])⟩
    rcases List.mem_append.1 hm with hm | hm
    · exact h3 _ hm
    · intro e; subst e; exact hd _ (by simp) hm
theorem leaves_marks {fn : Func} {R : Ending → World → Prop} {N0 : Rm} : ∀ (ds : List Deferred) {N : Rm} {st : St} {ok : Nat → Prop} {ρ : Rho} {a : Act} {w : World}, Gam N w0 ok0 st ok ρ a w → marksOk N0 N ds → N.gh = N0.gh → (∀ b o, N0.res b = some o → N.res b = some o) →
    (∀ N' w', Gam N' w0 ok0 st ok ρ a w' → N'.gh = N0.gh → (∀ b o, N0.res b = some o → N'.res b = some o) → ∃ v, (results fn a.tmps).run P w' = .ok v w' ∧ R (.returned v) w') → LeavesInM (FR none) 0 P fn a.tmps R ds .returning w
  | [], N, st, ok, ρ, a, w, g, _, hgh, hs, hR => by
    obtain ⟨v, h1, h2⟩ := hR N w g hgh hs
    exact ⟨v, h1, h2⟩
  | d :: ds, N, st, ok, ρ, a, w, g, hm, hgh, hs, hR => by
    obtain ⟨⟨D, rfl, h1, h2, h3⟩, h4⟩ := hm
    refine ⟨by simp, .inl ⟨D, _, rfl, run_takeDeferred (g.res D _ h2).2.1, ?_⟩⟩
    refine leaves_marks ds (g.reput h2 (.deferred none)) (marks_with h4 h3) hgh (fun b o hb => ?_) hR
    rw [with_ne]
    · exact hs b o hb
    · intro e; subst e; rw [h1] at hb; cases hb
/-- a room behind: more is reserved, more marks -/
structure Ext (N N' : Rm) : Prop where
  n : N'.n = N.n
  K : N'.K = N.K
  T : N'.T = N.T
  gh : N'.gh = N.gh
  res : ∀ b o, N.res b = some o → N'.res b = some o
  ds : ∃ ms, N'.ds = ms ++ N.ds ∧ marksOk N N' ms
theorem Ext.refl (N : Rm) : Ext N N := ⟨rfl, rfl, rfl, rfl, fun _ _ h => h, [], rfl, trivial⟩
theorem Ext.trans {N N' N'' : Rm} (a : Ext N N') (b : Ext N' N'') : Ext N N'' := by
  obtain ⟨ms, h1, h2⟩ := a.ds
  obtain ⟨ms', k1, k2⟩ := b.ds
  refine ⟨b.n.trans a.n, b.K.trans a.K, b.T.trans a.T, b.gh.trans a.gh, fun x o h => b.res x o (a.res x o h), ms' ++ ms, by rw [k1, h1, List.append_assoc], ?_⟩
  have hd : ∀ x, N'.res x = none → N.res x = none := fun x h => by
    cases hx : N.res x with
    | none => rfl
    | some o => rw [a.res x o hx] at h; cases h
  refine marks_append (marks_down hd k2) (marks_up b.res h2) fun d hm hm' => ?_
  have : ∀ {ds : List Deferred}, marksOk N' N'' ds → d ∈ ds → ∃ D, d = { target := .collected D, args := #[] } ∧ N'.res D = none := by
    intro ds h hm
    induction ds with
    | nil => simp at hm
    | cons e ds ih =>
      obtain ⟨⟨E, rfl, q1, _⟩, q2⟩ := h
      rcases List.mem_cons.1 hm with rfl | hm
      · exact ⟨E, rfl, q1⟩
      · exact ih q2 hm
  obtain ⟨D, rfl, q⟩ := this k2 hm
  rw [marks_some h2 hm'] at q
  cases q
end
end Go.Proofs.Ytpccjkabffpnhaa.Sx
namespace Go.Proofs.Ytpccjkabffpnhaa.Sx
open Go Go.RowKit

theorem maskC_maskC {lo lo2 : Nat} {j j2 : List (Nat × Nat)} (h : ∀ i i', lk lo i j = some i' → lk lo2 i' j2 = some i') (l : LV) : maskC lo2 j2 (maskC lo j l) = maskC lo j l := by
  cases l with
  | p id off => simp only [maskC]; cases e : lk lo id j with
    | none => rfl
    | some i' => simp only [renP, h _ _ e]
  | pe id r off => simp only [maskC]; cases e : lk lo id j with
    | none => rfl
    | some i' => simp only [renE, h _ _ e]
  | s id off len => simp only [maskC]; cases e : lk lo id j with
    | none => rfl
    | some i' => simp only [renS, h _ _ e]
  | m id => simp only [maskC]; cases e : lk lo id j with
    | none => rfl
    | some i' => simp only [renM, h _ _ e]
  | tup cs => cases cs <;> rfl
  | _ => rfl
theorem maskCs_maskCs {lo lo2 : Nat} {j j2 : List (Nat × Nat)} (h : ∀ i i', lk lo i j = some i' → lk lo2 i' j2 = some i') : ∀ ls : List LV, maskCs lo2 j2 (maskCs lo j ls) = maskCs lo j ls
  | [] => rfl
  | l :: ls => by simp only [maskCs, maskC_maskC h, maskCs_maskCs h ls]
theorem maskC_agg {lo : Nat} {j : List (Nat × Nat)} (l : LV) : ∀ cs, maskC lo j l ≠ .agg cs := by
  intro cs
  cases l with
  | p id off => simp only [maskC]; cases lk lo id j <;> simp [renP]
  | pe id r off => simp only [maskC]; cases lk lo id j <;> simp [renE]
  | s id off len => simp only [maskC]; cases lk lo id j <;> simp [renS]
  | m id => simp only [maskC]; cases lk lo id j <;> simp [renM]
  | tup cs => cases cs <;> simp [maskC]
  | _ => simp [maskC]
theorem mask2_cons {lo : Nat} {j : List (Nat × Nat)} (l : LV) (ls : List LV) (h : ∀ cs, l ≠ .agg cs) : mask2 lo j (l :: ls) = maskC lo j l :: mask2 lo j ls := by
  cases l <;> first | rfl | exact absurd rfl (h _)
theorem mask2_mask2 {lo lo2 : Nat} {j j2 : List (Nat × Nat)} (h : ∀ i i', lk lo i j = some i' → lk lo2 i' j2 = some i') : ∀ ls : List LV, mask2 lo2 j2 (mask2 lo j ls) = mask2 lo j ls
  | [] => rfl
  | l :: ls => by
    by_cases ha : ∃ cs, l = .agg cs
    · obtain ⟨cs, rfl⟩ := ha
      simp only [mask2, maskCs_maskCs h, mask2_mask2 h ls]
    · rw [mask2_cons l ls fun cs e => ha ⟨cs, e⟩, mask2_cons _ _ (maskC_agg l), maskC_maskC h, mask2_mask2 h ls]
theorem maskL_plain {lo : Nat} {j : List (Nat × Nat)} {l : LV} (h1 : ∀ cs, l ≠ .agg cs) (h2 : ∀ f cs, l ≠ .fn f cs) (h3 : ∀ c cs, l ≠ .tup (c :: cs)) : maskL lo j l = maskC lo j l := by
  cases l with
  | agg cs => exact absurd rfl (h1 _)
  | fn f cs => exact absurd rfl (h2 _ _)
  | tup cs => cases cs with
    | nil => rfl
    | cons c cs => exact absurd rfl (h3 _ _)
  | _ => rfl
theorem maskC_fn {lo : Nat} {j : List (Nat × Nat)} (l : LV) : (∀ f cs, maskC lo j l ≠ .fn f cs) ∧ ∀ c cs, maskC lo j l ≠ .tup (c :: cs) := by
  cases l with
  | p id off => simp only [maskC]; cases lk lo id j <;> simp [renP]
  | pe id r off => simp only [maskC]; cases lk lo id j <;> simp [renE]
  | s id off len => simp only [maskC]; cases lk lo id j <;> simp [renS]
  | m id => simp only [maskC]; cases lk lo id j <;> simp [renM]
  | tup cs => cases cs <;> simp [maskC]
  | _ => simp [maskC]
theorem maskL_maskL {lo lo2 : Nat} {j j2 : List (Nat × Nat)} (h : ∀ i i', lk lo i j = some i' → lk lo2 i' j2 = some i') (l : LV) : maskL lo2 j2 (maskL lo j l) = maskL lo j l := by
  by_cases h1 : ∃ cs, l = .agg cs
  · obtain ⟨cs, rfl⟩ := h1; simp only [maskL, maskCs_maskCs h]
  by_cases h2 : ∃ f cs, l = .fn f cs
  · obtain ⟨f, cs, rfl⟩ := h2; simp only [maskL, maskCs_maskCs h]
  by_cases h3 : ∃ c cs, l = .tup (c :: cs)
  · obtain ⟨c, cs, rfl⟩ := h3
    have key : ∀ ls : List LV, maskL lo2 j2 (.tup (mask2 lo j ls)) = .tup (mask2 lo2 j2 (mask2 lo j ls)) := fun ls => by cases hm : mask2 lo j ls <;> rfl
    show maskL lo2 j2 (.tup (mask2 lo j (c :: cs))) = .tup (mask2 lo j (c :: cs))
    rw [key, mask2_mask2 h]
  rw [maskL_plain (fun cs e => h1 ⟨cs, e⟩) (fun f cs e => h2 ⟨f, cs, e⟩) (fun c cs e => h3 ⟨c, cs, e⟩), maskL_plain (maskC_agg l) (maskC_fn l).1 (maskC_fn l).2, maskC_maskC h]

theorem lk_cases {lo i i' : Nat} : ∀ {j : List (Nat × Nat)}, lk lo i j = some i' → (i' = i ∧ i < lo) ∨ ∃ q ∈ j, i = lo + q.1 ∧ i' = lo + q.2
  | [], h => by
    simp only [lk] at h
    split at h
    · exact .inl ⟨(Option.some.inj h).symm, by assumption⟩
    · cases h
  | (a, b) :: r, h => by
    simp only [lk] at h
    split at h
    · rename_i e
      exact .inr ⟨(a, b), by simp, e.symm, (Option.some.inj h).symm⟩
    · rcases lk_cases h with h | ⟨q, h1, h2⟩
      · exact .inl h
      · exact .inr ⟨q, by simp [h1], h2⟩
theorem lk_lower {lo i : Nat} (h : i < lo) : ∀ j : List (Nat × Nat), lk lo i j = some i
  | [] => by simp [lk, h]
  | (a, b) :: r => by simp only [lk]; rw [if_neg (by omega)]; exact lk_lower h r
theorem lk_diag {lo c : Nat} {r : List (Nat × Nat)} : ∀ {ks : List (Nat × Nat)}, (∀ q ∈ ks, q.1 = q.2) → (c, c) ∈ ks → lk lo (lo + c) (ks ++ r) = some (lo + c)
  | [], _, h => by simp at h
  | (a, b) :: ks, hd, h => by
    have hab : a = b := hd (a, b) (by simp)
    subst hab
    simp only [List.cons_append, lk]
    split
    · rename_i e; rw [e]
    · rename_i e
      refine lk_diag (fun q hq => hd q (by simp [hq])) ?_
      rcases List.mem_cons.1 h with h | h
      · exact absurd (by cases h; rfl) e
      · exact h

theorem ksOf_diag (g : GC) : ∀ q ∈ ksOf g, q.1 = q.2 := by
  intro q hq
  rcases List.mem_cons.1 hq with rfl | hq
  · rfl
  · obtain ⟨p, _, rfl⟩ := List.mem_map.1 hq
    rfl
theorem look_addKs {id : Nat} {ks : List (Nat × Nat)} : ∀ {A : List (Nat × GC)}, (look id (addKs ks A)).ok = true → ∃ g, look id (addKs ks A) = addK ks g
  | [], h => by simp [addKs, look, GC.ok, nodup] at h
  | (a, g) :: r, h => by
    simp only [addKs, look] at h ⊢
    split
    · exact ⟨g, rfl⟩
    · rename_i e
      rw [if_neg e] at h
      exact look_addKs h
/-- what is kept in each round stays -/
theorem keep_ks {lo id : Nat} {ks j : List (Nat × Nat)} {A : List (Nat × GC)} (hks : ∀ q ∈ ks, q.1 = q.2) (hj : ∀ q ∈ j, (q.2, q.2) ∈ ks) (hok : (look id (addKs ks A)).ok = true) (l : LV) :
    maskL lo (look id (addKs ks A)).ids (maskL lo j l) = maskL lo j l := by
  obtain ⟨g, hg⟩ := look_addKs hok
  rw [hg]
  refine maskL_maskL (fun i i' h => ?_) l
  rcases lk_cases h with ⟨rfl, h1⟩ | ⟨q, h1, _, rfl⟩
  · exact lk_lower h1 _
  · exact lk_diag hks (hj q h1)
theorem keep_low {lo : Nat} {j : List (Nat × Nat)} (hj : ∀ q ∈ j, q.2 < 1000000) (l : LV) : maskL (lo + 1000000) [] (maskL lo j l) = maskL lo j l := by
  refine maskL_maskL (fun i i' h => ?_) l
  rcases lk_cases h with ⟨rfl, h1⟩ | ⟨q, h1, _, rfl⟩
  · exact lk_lower (by omega) _
  · exact lk_lower (by have := hj q h1; omega) _

section
variable {w : World} {ok : Nat → Prop}
theorem lk_eq {lo i i' : Nat} {j : List (Nat × Nat)} (hj : ∀ q ∈ j, q.1 = q.2) (h : lk lo i j = some i') : i' = i := by
  rcases lk_cases h with ⟨h, _⟩ | ⟨q, h1, h2, h3⟩
  · exact h
  · rw [h2, h3, hj q h1]
theorem maskC_diag {ρ : Rho} {h : Hp} {lo : Nat} {j : List (Nat × Nat)} (hj : ∀ q ∈ j, q.1 = q.2) {l : LV} {x : Value} (hl : LRep w ok ρ h l x) : LRep w ok ρ h (maskC lo j l) x := by
  cases l with
  | p id off => simp only [maskC]; cases e : lk lo id j with
    | none => simp only [renP, LRep]
    | some i => have := lk_eq hj e; subst this; exact hl
  | pe id r off => simp only [maskC]; cases e : lk lo id j with
    | none => simp only [renE, LRep]
    | some i => have := lk_eq hj e; subst this; exact hl
  | s id off len => simp only [maskC]; cases e : lk lo id j with
    | none => simp only [renS, LRep]
    | some i => have := lk_eq hj e; subst this; exact hl
  | m id => simp only [maskC]; cases e : lk lo id j with
    | none => simp only [renM, LRep]
    | some i => have := lk_eq hj e; subst this; exact hl
  | v t => exact hl
  | u => exact hl
  | agg cs => simp only [maskC, LRep]
  | fn f cs => simp only [maskC, LRep]
  | tup cs => cases cs with
    | nil => exact hl
    | cons c cs => simp only [maskC, LRep]
theorem maskCs_diag {ρ : Rho} {h : Hp} {lo : Nat} {j : List (Nat × Nat)} (hj : ∀ q ∈ j, q.1 = q.2) {one : Bool} : ∀ {ls : List LV} {xs : List Value}, LReps w ok ρ h one ls xs → LReps w ok ρ h one (maskCs lo j ls) xs
  | [], xs, hl => hl
  | l :: ls, xs, hl => by
    simp only [LReps] at hl
    obtain ⟨v, r, rfl, h1, h2, h3⟩ := hl
    simp only [maskCs, LReps]
    exact ⟨v, r, rfl, h1, maskC_diag hj h2, maskCs_diag hj h3⟩
theorem mask2_diag {ρ : Rho} {h : Hp} {lo : Nat} {j : List (Nat × Nat)} (hj : ∀ q ∈ j, q.1 = q.2) {one : Bool} : ∀ {ls : List LV} {xs : List Value}, LReps w ok ρ h one ls xs → LReps w ok ρ h one (mask2 lo j ls) xs
  | [], xs, hl => hl
  | l :: ls, xs, hl => by
    simp only [LReps] at hl
    obtain ⟨v, r, rfl, h1, h2, h3⟩ := hl
    have ih := mask2_diag (lo := lo) hj h3
    by_cases ha : ∃ cs, l = .agg cs
    · obtain ⟨cs, rfl⟩ := ha
      simp only [LRep] at h2
      obtain ⟨vs, k1, k2⟩ := h2
      simp only [mask2, LReps]
      exact ⟨v, r, rfl, h1, by simp only [LRep]; exact ⟨vs, k1, maskCs_diag hj k2⟩, ih⟩
    · have e : mask2 lo j (l :: ls) = maskC lo j l :: mask2 lo j ls := by
        cases l with
        | agg cs => exact absurd ⟨cs, rfl⟩ ha
        | _ => rfl
      rw [e]
      simp only [LReps]
      exact ⟨v, r, rfl, h1, maskC_diag hj h2, ih⟩
theorem maskL_diag {ρ : Rho} {h : Hp} {lo : Nat} {j : List (Nat × Nat)} (hj : ∀ q ∈ j, q.1 = q.2) {l : LV} {x : Value} (hl : LRep w ok ρ h l x) : LRep w ok ρ h (maskL lo j l) x := by
  unfold maskL
  split
  · simp only [LRep] at hl ⊢
    obtain ⟨vs, k1, k2⟩ := hl
    exact ⟨vs, k1, maskCs_diag hj k2⟩
  · simp only [LRep] at hl ⊢
    obtain ⟨vs, k1, k2⟩ := hl
    exact ⟨vs, k1, maskCs_diag hj k2⟩
  · simp only [LRep] at hl ⊢
    obtain ⟨vs, k1, k2⟩ := hl
    exact ⟨vs, k1, mask2_diag hj k2⟩
  · exact maskC_diag hj hl

end
/-- what is carried along keeps its names -/
def Stable (N : Rm) (lo : Nat) (A B : List (Nat × GC)) : Prop := (∀ id k, (look id A).ok = true → maskL lo (look id A).ids (N.gh k).1 = (N.gh k).1) ∧ ∀ id k, (look id B).ok = true → maskL lo (look id B).ids (N.gh k).1 = (N.gh k).1
/-- where a range over a function may stand -/
def RgOk (n : Sl) (rd : Option Nat) (N : Rm) (lo : Nat) : Prop := n.rg = true → rd = none ∧ ∀ k, maskL lo [] (N.gh k).1 = (N.gh k).1

theorem marks_none {N0 N : Rm} {D : Nat} : ∀ {ds : List Deferred}, marksOk N0 N ds → { target := .collected D, args := #[] } ∈ ds → N0.res D = none
  | [], _, hm => by simp at hm
  | d :: ds, h, hm => by
    obtain ⟨⟨E, rfl, h1, h2, h3⟩, h4⟩ := h
    rcases List.mem_cons.1 hm with e | hm
    · cases e; exact h1
    · exact marks_none h4 hm
/-- a block that was turned for a while -/
theorem Ext.turn {N1 N3 : Rm} {l : Nat} {o o1 : Obj} (h1 : N1.res l = some o) (e : Ext (N1.with l o1) N3) : Ext N1 (N3.with l o) := by
  obtain ⟨ms, k1, k2⟩ := e.ds
  refine ⟨e.n, e.K, e.T, e.gh, fun b x hb => ?_, ms, k1, ?_⟩
  · by_cases hbl : b = l
    · subst hbl; rw [with_at, ← hb, h1]
    · rw [with_ne _ _ hbl]; exact e.res b x (by rw [with_ne _ _ hbl]; exact hb)
  · refine marks_with (marks_down (fun b hb => ?_) k2) fun d hd e' => ?_
    · by_cases hbl : b = l
      · subst hbl; rw [with_at] at hb; cases hb
      · rw [with_ne _ _ hbl] at hb; exact hb
    · subst e'
      have := marks_none k2 hd
      rw [with_at] at this
      cases this

section
variable {P : Program} {C : Cs} {N N' : Rm} {lo : Nat} {n : Sl} {A B : List (Nat × GC)} {rd : Option Nat}
theorem Ext.good (e : Ext N N') (h : GoodAt P C N lo) : GoodAt P C N' lo := by
  refine ⟨h.1, fun f lo' hp args r hc k => by rw [e.gh]; exact h.2.1 f lo' hp args r hc k, fun R hR => ?_⟩
  obtain ⟨l, r, n, A, B, h1, h2, h3⟩ := h.2.2 R hR
  refine ⟨l, r, n, A, B, by rw [e.T]; exact h1, e.res _ _ h2, ?_⟩
  rw [e.gh]
  exact h3
theorem Ext.le (e : Ext N N') (h : n.le N) : n.le N' := by
  refine ⟨by rw [e.n]; exact h.1, fun d hd => ?_, fun d hd => by rw [e.K]; exact h.2.2 d hd⟩
  have := h.2.1 d hd
  exact ⟨by rw [e.n]; exact this.1, by rw [e.K]; exact this.2⟩
theorem Ext.stable (e : Ext N N') (h : Stable N lo A B) : Stable N' lo A B := by
  unfold Stable
  rw [e.gh]
  exact h
theorem Ext.rg (e : Ext N N') (h : RgOk n rd N lo) : RgOk n rd N' lo := by
  unfold RgOk
  rw [e.gh]
  exact h
end
end Go.Proofs.Ytpccjkabffpnhaa.Sx
namespace Go.Proofs.Ytpccjkabffpnhaa.Sx
open Go

theorem seqK_mono {k k' : St → Option (Ex × St)} (hk : ∀ st r, k st = some r → k' st = some r) {x x' : Option (Ex × St)} (hx : ∀ r, x = some r → x' = some r) {r : Ex × St}
    (h : seqK k x = some r) : seqK k' x' = some r := by
  cases x with
  | none => cases h
  | some y =>
    have := hx _ rfl
    subst this
    obtain ⟨e, st⟩ := y
    cases e with
    | norm => exact hk _ _ h
    | exit i => exact h
    | ret => exact h

theorem blockK_mono {id : Nat} {x x' : Option (Ex × St)} (hx : ∀ r, x = some r → x' = some r) {r : Ex × St} (h : blockK id x = some r) : blockK id x' = some r := by
  cases x with
  | none => cases h
  | some y => rw [hx _ rfl]; exact h

theorem condK_mono {a b a' b' : St → Option (Ex × St)} (ha : ∀ st r, a st = some r → a' st = some r) (hb : ∀ st r, b st = some r → b' st = some r) {st : St} {l : LV} {r : Ex × St}
    (h : condK a b st l = some r) : condK a' b' st l = some r := by
  unfold condK at h ⊢
  split at h
  · split at h
    · rename_i hc; simp only [hc, if_true]; exact ha _ _ h
    · rename_i hc; simp only [hc]; exact hb _ _ h
  · cases h

theorem rngK_mono {k k' : ICode → List LV → Option (Ex × St)} (hk : ∀ c l r, k c l = some r → k' c l = some r) {x : Option (ICode × List LV)} {r : Ex × St} (h : rngK k x = some r) : rngK k' x = some r := by
  cases x with
  | none => cases h
  | some y => exact hk _ _ _ h
theorem rngD_mono {lo : Nat} {env : Nat → LV} {x x' : Option (Ex × St)} (hx : ∀ r, x = some r → x' = some r) {r : Ex × St} (h : rngD lo env x = some r) : rngD lo env x' = some r := by
  cases x with
  | none => cases h
  | some y => rw [hx _ rfl]; exact h
theorem yldK_mono {k k' : Rnd → St → Option (Ex × St)} (hk : ∀ c l r, k c l = some r → k' c l = some r) {y : Option Rnd} {x : Option St} {r : Ex × St} (h : yldK k y x = some r) : yldK k' y x = some r := by
  cases y with
  | none => cases h
  | some y => cases x with
    | none => cases h
    | some x => exact hk _ _ _ h
theorem yldD_mono {lo : Nat} {g : GC} {d : Nat} {env : Nat → LV} {x x' : Option (Ex × St)} (hx : ∀ r, x = some r → x' = some r) {r : Ex × St} (h : yldD lo g d env x = some r) : yldD lo g d env x' = some r := by
  cases x with
  | none => cases h
  | some y => rw [hx _ rfl]; exact h

section
variable (C : Cs) (lo : Nat)

theorem ev_step (n : Nat) : ∀ (c : ICode) (st : St) (r : Ex × St), ev C lo n c st = some r → ev C lo (n + 1) c st = some r := by
  induction n generalizing C lo with
  | zero => intro c st r h; cases h
  | succ n ih =>
    intro c st r h
    cases c with
    | skip => exact h
    | region ops g => exact h
    | draw ops ord g => exact h
    | gc g => exact h
    | seq a b => exact seqK_mono (fun st r h => ih C lo b st r h) (fun r h => ih C lo a st r h) h
    | cond c a b => exact condK_mono (fun st r h => ih C lo a st r h) (fun st r h => ih C lo b st r h) h
    | block id b => exact blockK_mono (fun r h => ih C lo b st r h) h
    | loop b => exact seqK_mono (fun st r h => ih C lo (.loop b) st r h) (fun r h => ih C lo b st r h) h
    | exit id => exact h
    | ret => exact h
    | bad => exact h
    | rng x p ac bd g ks => exact rngK_mono (fun c l r h => rngD_mono (fun r h => ih _ _ _ _ r h) h) h
    | yld d a o x g => exact yldK_mono (fun R st r h => yldD_mono (fun r h => ih _ _ _ _ r h) h) h

theorem ev_le {n m : Nat} (hnm : n ≤ m) {c : ICode} {st : St} {r : Ex × St} (h : ev C lo n c st = some r) : ev C lo m c st = some r := by
  induction hnm with
  | refl => exact h
  | step _ ih => exact ev_step C lo _ c st r ih

theorem ev_one {n m : Nat} {c : ICode} {st : St} {r r' : Ex × St} (h : ev C lo n c st = some r) (h' : ev C lo m c st = some r') : r = r' := by
  have a := ev_le C lo (Nat.le_max_left n m) h
  have b := ev_le C lo (Nat.le_max_right n m) h'
  rw [a] at b
  exact Option.some.inj b

open Classical in
/-- what the code comes to -/
noncomputable def E (c : ICode) (st : St) : Option (Ex × St) := if h : ∃ r n, ev C lo n c st = some r then some h.choose else none

theorem E_some {c : ICode} {st : St} {r : Ex × St} : E C lo c st = some r ↔ ∃ n, ev C lo n c st = some r := by
  unfold E
  split
  · rename_i h
    constructor
    · intro hr; rw [← Option.some.inj hr]; exact h.choose_spec
    · rintro ⟨n, hn⟩
      obtain ⟨m, hm⟩ := h.choose_spec
      rw [ev_one C lo hm hn]
  · rename_i h
    constructor
    · intro hr; cases hr
    · rintro ⟨n, hn⟩; exact absurd ⟨r, n, hn⟩ h

theorem E_of {c : ICode} {st : St} {n : Nat} {r : Ex × St} (h : ev C lo n c st = some r) : E C lo c st = some r := (E_some C lo).2 ⟨n, h⟩

/-- two options that come to the same things are one -/
theorem opt_ext {α : Type} {a b : Option α} (h : ∀ r, a = some r ↔ b = some r) : a = b := by
  cases a with
  | none => cases b with
    | none => rfl
    | some y => exact ((h y).2 rfl)
  | some x => exact ((h x).1 rfl).symm

@[go_sem] theorem E_skip (st : St) : E C lo .skip st = some (.norm, st) := E_of C lo (n := 1) rfl
@[go_sem] theorem E_exit (i : Nat) (st : St) : E C lo (.exit i) st = some (.exit i, st) := E_of C lo (n := 1) rfl
@[go_sem] theorem E_ret (st : St) : E C lo .ret st = some (.ret, st) := E_of C lo (n := 1) rfl
@[go_sem] theorem E_bad (st : St) : E C lo .bad st = none := by
  cases h : E C lo .bad st with
  | none => rfl
  | some r => obtain ⟨n, hn⟩ := (E_some C lo).1 h; cases n <;> cases hn
@[go_sem] theorem E_gc (g : GC) (st : St) : E C lo (.gc g) st = some (.norm, g.run lo st) := E_of C lo (n := 1) rfl
@[go_sem] theorem E_draw (ops : List IOper) (ord : List Nat) (g : GC) (st : St) : E C lo (.draw ops ord g) st = regK lo g (evOpsD C lo ops ord 0 [] (some st)) := by
  refine opt_ext fun r => ?_
  rw [E_some]
  constructor
  · rintro ⟨n, hn⟩; cases n with
    | zero => cases hn
    | succ n => exact hn
  · intro h; exact ⟨1, h⟩
@[go_sem] theorem E_region (ops : List IOper) (g : GC) (st : St) : E C lo (.region ops g) st = regK lo g (evOps C lo ops (some st)) := by
  refine opt_ext fun r => ?_
  rw [E_some]
  constructor
  · rintro ⟨n, hn⟩; cases n with
    | zero => cases hn
    | succ n => exact hn
  · intro h; exact ⟨1, h⟩

theorem seqK_some {k : St → Option (Ex × St)} {x : Option (Ex × St)} {r : Ex × St} :
    seqK k x = some r ↔ (∃ st, x = some (.norm, st) ∧ k st = some r) ∨ (x = some r ∧ r.1 ≠ .norm) := by
  cases x with
  | none => simp [seqK]
  | some y =>
    obtain ⟨e, st⟩ := y
    obtain ⟨e', st'⟩ := r
    cases e <;> simp [seqK] <;> (try (intro h; subst h; simp)) <;> (try (intros; subst_vars; simp))

@[go_sem] theorem E_seq (a b : ICode) (st : St) : E C lo (.seq a b) st = seqK (E C lo b) (E C lo a st) := by
  refine opt_ext fun r => ?_
  rw [E_some, seqK_some]
  constructor
  · rintro ⟨n, hn⟩; cases n with
    | zero => cases hn
    | succ n =>
      rcases seqK_some.1 hn with ⟨st', h1, h2⟩ | ⟨h1, h2⟩
      · exact .inl ⟨st', E_of C lo h1, E_of C lo h2⟩
      · exact .inr ⟨E_of C lo h1, h2⟩
  · rintro (⟨st', h1, h2⟩ | ⟨h1, h2⟩)
    · obtain ⟨n, hn⟩ := (E_some C lo).1 h1
      obtain ⟨m, hm⟩ := (E_some C lo).1 h2
      exact ⟨max n m + 1, seqK_some.2 (.inl ⟨st', ev_le C lo (Nat.le_max_left n m) hn, ev_le C lo (Nat.le_max_right n m) hm⟩)⟩
    · obtain ⟨n, hn⟩ := (E_some C lo).1 h1
      exact ⟨n + 1, seqK_some.2 (.inr ⟨hn, h2⟩)⟩

theorem E_loop (b : ICode) (st : St) : E C lo (.loop b) st = seqK (E C lo (.loop b)) (E C lo b st) := by
  refine opt_ext fun r => ?_
  rw [E_some, seqK_some]
  constructor
  · rintro ⟨n, hn⟩; cases n with
    | zero => cases hn
    | succ n =>
      rcases seqK_some.1 hn with ⟨st', h1, h2⟩ | ⟨h1, h2⟩
      · exact .inl ⟨st', E_of C lo h1, E_of C lo h2⟩
      · exact .inr ⟨E_of C lo h1, h2⟩
  · rintro (⟨st', h1, h2⟩ | ⟨h1, h2⟩)
    · obtain ⟨n, hn⟩ := (E_some C lo).1 h1
      obtain ⟨m, hm⟩ := (E_some C lo).1 h2
      exact ⟨max n m + 1, seqK_some.2 (.inl ⟨st', ev_le C lo (Nat.le_max_left n m) hn, ev_le C lo (Nat.le_max_right n m) hm⟩)⟩
    · obtain ⟨n, hn⟩ := (E_some C lo).1 h1
      exact ⟨n + 1, seqK_some.2 (.inr ⟨hn, h2⟩)⟩

@[go_sem] theorem E_block (id : Nat) (b : ICode) (st : St) : E C lo (.block id b) st = blockK id (E C lo b st) := by
  refine opt_ext fun r => ?_
  rw [E_some]
  constructor
  · rintro ⟨n, hn⟩; cases n with
    | zero => cases hn
    | succ n => exact blockK_mono (fun r h => E_of C lo h) hn
  · intro h
    cases hb : E C lo b st with
    | none => rw [hb] at h; cases h
    | some y =>
      obtain ⟨n, hn⟩ := (E_some C lo).1 hb
      rw [hb] at h
      exact ⟨n + 1, by rw [← h]; exact congrArg (blockK id) hn⟩

@[go_sem] theorem E_cond (c : X) (a b : ICode) (st : St) : E C lo (.cond c a b) st = condK (E C lo a) (E C lo b) st (c.rd st.env) := by
  refine opt_ext fun r => ?_
  rw [E_some]
  constructor
  · rintro ⟨n, hn⟩; cases n with
    | zero => cases hn
    | succ n => exact condK_mono (fun st r h => E_of C lo h) (fun st r h => E_of C lo h) hn
  · intro h
    have key : ∀ l, condK (E C lo a) (E C lo b) st l = some r → ∃ n, condK (ev C lo n a) (ev C lo n b) st l = some r := by
      intro l hl
      unfold condK at hl
      split at hl
      · split at hl
        · rename_i hc; obtain ⟨n, hn⟩ := (E_some C lo).1 hl; exact ⟨n, by simp only [condK, hc, if_true]; exact hn⟩
        · rename_i hc; obtain ⟨n, hn⟩ := (E_some C lo).1 hl; exact ⟨n, by simp only [condK, hc]; exact hn⟩
      · cases hl
    obtain ⟨n, hn⟩ := key _ h
    exact ⟨n + 1, hn⟩

theorem E_rng (x : X) (p : Nat) (ac bd : ICode) (g : GC) (ks : List (Nat × Nat)) (st : St) : E C lo (.rng x p ac bd g ks) st =
    rngK (fun c caps => rngD lo (g.run lo st).env (E (C.ring ⟨.seq ac bd, p, (g.run lo st).env, lo, ks⟩) (lo + 1000000) c ⟨bindL 1 caps, (g.run lo st).hp⟩)) (itF C (x.rd (g.run lo st).env)) := by
  refine opt_ext fun r => ?_
  rw [E_some]
  constructor
  · rintro ⟨n, hn⟩; cases n with
    | zero => cases hn
    | succ n => exact rngK_mono (fun c l r h => rngD_mono (fun r h => E_of _ _ h) h) hn
  · intro h
    cases hq : itF C (x.rd (g.run lo st).env) with
    | none => rw [hq] at h; cases h
    | some q =>
      obtain ⟨c, caps⟩ := q
      rw [hq] at h
      simp only [rngK] at h
      cases hy : E (C.ring ⟨.seq ac bd, p, (g.run lo st).env, lo, ks⟩) (lo + 1000000) c ⟨bindL 1 caps, (g.run lo st).hp⟩ with
      | none => rw [hy] at h; cases h
      | some y =>
        obtain ⟨n, hn⟩ := (E_some _ _).1 hy
        rw [hy] at h
        refine ⟨n + 1, ?_⟩
        show rngK _ (itF C (x.rd (g.run lo st).env)) = some r
        rw [hq]
        show rngD _ _ (ev _ _ n _ _) = some r
        rw [hn]
        exact h
theorem E_yld (d a : Nat) (o : IOper) (x : X) (g : GC) (st : St) : E C lo (.yld d a o x g) st =
    yldK (fun R st1 => yldD lo g d (fun k => maskL R.lo R.ks (st1.env k)) (E C.unring R.lo R.bd ⟨upd R.env R.p (x.rd st1.env), st1.hp⟩)) C.y (evOps C lo [o] (some (st.set a .u))) := by
  refine opt_ext fun r => ?_
  rw [E_some]
  constructor
  · rintro ⟨n, hn⟩; cases n with
    | zero => cases hn
    | succ n => exact yldK_mono (fun c l r h => yldD_mono (fun r h => E_of _ _ h) h) hn
  · intro h
    cases hR : C.y with
    | none => rw [hR] at h; cases h
    | some R =>
      cases hq : evOps C lo [o] (some (st.set a .u)) with
      | none => rw [hR, hq] at h; cases h
      | some st1 =>
        rw [hR, hq] at h
        simp only [yldK] at h
        cases hy : E C.unring R.lo R.bd ⟨upd R.env R.p (x.rd st1.env), st1.hp⟩ with
        | none => rw [hy] at h; cases h
        | some y =>
          obtain ⟨n, hn⟩ := (E_some _ _).1 hy
          rw [hy] at h
          refine ⟨n + 1, ?_⟩
          show yldK _ C.y (evOps C lo [o] (some (st.set a .u))) = some r
          rw [hR, hq]
          show yldD _ _ _ _ (ev _ _ n _ _) = some r
          rw [hn]
          exact h
end
end Go.Proofs.Ytpccjkabffpnhaa.Sx
namespace Go.Proofs.Ytpccjkabffpnhaa.Sx
open Go Go.RowKit

theorem least {p : Nat → Prop} (h : ∃ k, p k) : ∃ k, p k ∧ ∀ j < k, ¬ p j := by
  obtain ⟨k, hk⟩ := h
  induction k using Nat.strongRecOn with
  | _ k ih =>
    by_cases h : ∃ j < k, p j
    · obtain ⟨j, hj, hp⟩ := h
      exact ih j hj hp
    · exact ⟨k, hk, fun j hj hp => h ⟨j, hj, hp⟩⟩

open Classical in
noncomputable def leastOf (p : Nat → Prop) : Nat := if h : ∃ k, p k then (least h).choose else 0
theorem leastOf_spec {p : Nat → Prop} (h : ∃ k, p k) : p (leastOf p) := by
  unfold leastOf; rw [dif_pos h]; exact (least h).choose_spec.1
theorem leastOf_le {p : Nat → Prop} {k : Nat} (h : p k) : leastOf p ≤ k := by
  have he : ∃ k, p k := ⟨k, h⟩
  unfold leastOf; rw [dif_pos he]
  rcases Nat.lt_or_ge k (least he).choose with h' | h'
  · exact absurd h ((least he).choose_spec.2 k h')
  · exact h'

theorem wp_loop_fuel {P : Program} {rd : Option Nat} {c : Code} {Q : Exit → Act → World → Prop} (J : Nat → Act → World → Prop) {k : Nat} {a : Act} {w : World} (h : J k a w)
    (round : ∀ k a w, J k a w → c.wpIn (FR rd) 0 P (Exit.then (fun a' w' => ∃ k', k' < k ∧ J k' a' w') Q) a w) : (Code.loop c).wpIn (FR rd) 0 P Q a w := by
  refine wpIn_loop (fun a w => ∃ k, J k a w) (fun a w => leastOf fun k => J k a w) ⟨k, h⟩ fun a w hI => ?_
  refine wpIn_mono (round _ a w (leastOf_spec hI)) fun e a' w' hq => ?_
  cases e with
  | normal =>
    obtain ⟨k', hlt, hJ⟩ := hq
    exact ⟨⟨k', hJ⟩, Nat.lt_of_le_of_lt (leastOf_le hJ) hlt⟩
  | _ => exact hq

theorem stepR_scope {P : Program} {b : Frame} {a : Act} {k : List Go.Item} {cs : List Frame} {w : World} {c : Code} : step P (lone (b.atR a (.code (.scope c) :: k)) cs w) = .next (lone (b.atR a (.code c :: .inScope c :: k)) cs w) :=
  step_lone_go (by simp [stepG, stepG.exec, Frame.atR])
theorem stepR_inScope {P : Program} {b : Frame} {a : Act} {k : List Go.Item} {cs : List Frame} {w : World} {c : Code} : step P (lone (b.atR a (.inScope c :: k)) cs w) = .next (lone (b.atR a k) cs w) :=
  step_lone_go (by simp [stepG, stepG.exec, Frame.atR])
theorem wpIn_scope_straight {F : Fence} {n : Nat} {P : Program} {Q : Exit → Act → World → Prop} {a : Act} {w : World} {c : Code} (h : c.wpIn F n P (Exit.noGoto Q) a w) : (Code.scope c).wpIn F n P Q a w := by
  intro b k cs hro hb hr
  have h0 : (lone (b.atR a (.code (.scope c) :: k)) cs w).fenced P F := fenced_calm hb hr rfl
  obtain ⟨e, a₁, w₁, hq, harr⟩ := h b (.inScope c :: k) cs hro hb hr
  cases e with
  | normal => exact ⟨.normal, a₁, w₁, hq, .head h0 stepR_scope (StepsIn.trans harr (.one (fenced_calm hb hr rfl) stepR_inScope))⟩
  | exit id =>
    have hx : exitTo id (.inScope c :: k) = exitTo id k := by simp [exitTo]
    exact ⟨_, a₁, w₁, hq, fun k' hk => .head h0 stepR_scope (harr.1 k' (by rw [hx]; exact hk)),
      fun hr' hk => let ⟨k₁, h1, h2⟩ := harr.2 hr' (by rw [hx]; exact hk); ⟨k₁, h1, .head h0 stepR_scope h2⟩⟩
  | goto l => exact hq.elim
  | ret => exact ⟨_, a₁, w₁, hq, .of_steps (.one h0 stepR_scope) harr⟩
  | panic ch => exact ⟨_, a₁, w₁, hq, .of_steps (.one h0 stepR_scope) harr⟩
  | outgrown => exact ⟨_, a₁, w₁, hq, .of_steps (.one h0 stepR_scope) harr⟩

def toExit : Ex → Exit
  | .norm => .normal
  | .exit id => .exit id
  | .ret => .ret

/-- wherever what is left is told, Q holds -/
def Out (N : Rm) (w0 : World) (ok0 : Nat → Prop) (r : Ex × St) (Q : Exit → Act → World → Prop) : Prop := ∀ N' ok ρ a w, Ext N N' → Gam N' w0 ok0 r.2 ok ρ a w → Q (toExit r.1) a w

section
variable {P : Program} {rd : Option Nat} {C : Cs} {N : Rm} {w0 : World} {ok0 : Nat → Prop} {lo : Nat} {n : Sl} {A B : List (Nat × GC)}

theorem regK_some {g : GC} {x : Option St} {r : Ex × St} (h : regK lo g x = some r) : ∃ st, x = some st ∧ r = (.norm, g.run lo st) := by
  cases x with
  | none => cases h
  | some st => exact ⟨st, rfl, (Option.some.inj h).symm⟩
theorem ev_bad {m : Nat} {st : St} {r : Ex × St} (h : ev C lo m .bad st = some r) : False := by cases m <;> cases h
theorem orBad_ok {b : Bool} {c : ICode} {m : Nat} {st : St} {r : Ex × St} (h : ev C lo m (orBad b c) st = some r) : b = true ∧ ev C lo m c st = some r := by
  unfold orBad at h
  split at h
  · exact ⟨by assumption, h⟩
  · exact (ev_bad h).elim

/-- code does what it is taken for, with m rounds -/
def CodeOk (P : Program) (m : Nat) : Prop := ∀ {rd : Option Nat} {C : Cs} {N : Rm} {w0 : World} {ok0 : Nat → Prop} {lo : Nat} {n : Sl} {A B : List (Nat × GC)}, GoodAt P C N lo → n.le N → Stable N lo A B → RgOk n rd N lo →
  ∀ (c : Code) {st : St} {r : Ex × St} {ok : Nat → Prop} {ρ : Rho} {a : Act} {w : World} {Q : Exit → Act → World → Prop},
    ev C lo m (cCode P n A B c) st = some r → Gam N w0 ok0 st ok ρ a w → Out N w0 ok0 r Q → c.wpIn (FR rd) 0 P Q a w

theorem round_ok {m : Nat} (IH : ∀ k, k < m → CodeOk P k) (hC : Good P C) (hCi : ∀ f lo h args, C.i f lo h args = none) (hy : C.y = none) (hnN : n.le N) (hst : Stable N lo A B) (hrg : n.rg = false) {l : Nat} {f : FuncId} {rd0 : Option Nat} {tmps : Array Value} {assign body : Code} {r : Loop} {st st2 : St}
    (hr : N.res l = some (.loop r)) (hready : r.state = .ready) (hpend : r.pending = none)
    (hev : ev C lo m (.seq (cCode P n A B assign) (cCode P n A B body)) st = some (.norm, st2)) {ok : Nat → Prop} {ρ : Rho} {w : World}
    (g : Gam N w0 ok0 st ok ρ { tmps := tmps, defers := [] } w) (R : Ending → World → Prop)
    (hR : ∀ N' ok' ρ' a' w', Ext N N' → Gam N' w0 ok0 st2 ok' ρ' a' w' → R (.returned (.bool true)) w') : RoundIn (FR rd0) 0 P l f tmps assign body w R := by
  have good : ∀ N : Rm, GoodAt P C N lo := fun N => ⟨hC, fun f lo' h args r hc => (by rw [hCi] at hc; cases hc), fun R hR => (by rw [hy] at hR; cases hR)⟩
  have rg : ∀ (rd : Option Nat) (N : Rm), RgOk n rd N lo := fun rd N h => by rw [hrg] at h; cases h
  cases m with
  | zero => cases hev
  | succ m =>
    simp only [ev] at hev
    rcases seqK_some.1 hev with ⟨st1, h1, h2⟩ | ⟨_, h2⟩
    · refine roundIn_of_wpIn trivial ?_
      refine IH m (Nat.lt_succ_self _) (rd := some l) (good N) hnN hst (rg _ _) assign h1 g fun N1 ok1 ρ1 a1 w1 e1 g1 => ?_
      show ∃ w2, _
      have hr1 := e1.res _ _ hr
      have hl1 := (g1.res l _ hr1).2.1
      refine ⟨_, run_beginRound hl1 hready, ?_⟩
      have g2 := g1.reput hr1 (.loop { r with state := .busy })
      have hnN2 : n.le (N1.with l (.loop { r with state := .busy })) := e1.le hnN
      have hst2 : Stable (N1.with l (.loop { r with state := .busy })) lo A B := e1.stable hst
      refine IH m (Nat.lt_succ_self _) (rd := some l) (good _) hnN2 hst2 (rg _ _) body h2 g2 fun N3 ok3 ρ3 a3 w3 e3 g3 => ?_
      have hr3 := e3.res _ _ (with_at _ _ _)
      have hl3 := (g3.res l _ hr3).2.1
      refine ⟨_, _, run_endRound none hl3, ?_⟩
      have g4 := g3.reput hr3 (.loop { r with state := .ready, pending := none })
      have er : ({ r with state := .ready, pending := none } : Loop) = r := by rw [← hready, ← hpend]
      rw [er] at g4
      have k := hR _ _ _ _ _ (e1.trans (e3.turn hr1)) g4
      rw [← er] at k
      exact k
    · exact absurd rfl h2

theorem Good.unring (h : Good P C) : Good P C.unring := ⟨h.1, fun f lo h args l h' hc => (by cases hc), h.2.2⟩
theorem Good.ring (h : Good P C) (R : Rnd) : Good P (C.ring R) := ⟨h.1, fun f lo h args l h' hc => (by cases hc), h.2.2⟩
theorem yld_ok {m : Nat} (IH : ∀ k, k < m → CodeOk P k) (hC : GoodAt P C N lo) (hnN : n.le N) {gc : GC} {ops : Array Oper} {o1 o2 o3 : Oper} {c : ICode} (hops : ops.toList = [o1, o2, o3]) (hc : yld3 P n ops gc o1 o2 o3 = some c)
    {st : St} {r : Ex × St} (hev : ev C lo m c st = some r) (hgc : gc.ok = true) (hstk : ∀ k, maskL lo gc.ids (N.gh k).1 = (N.gh k).1) {ok : Nat → Prop} {ρ : Rho} {a : Act} {w : World} {Q : Exit → Act → World → Prop}
    (g : Gam N w0 ok0 st ok ρ a w) (hq : Out N w0 ok0 r Q) : wpOpsIn (FR rd) 0 P ops Q (List.range ops.size) a w := by
  unfold yld3 at hc
  split at hc
  · rename_i s d cl hd1 ho1 hg1 hd3 ho3 hg3
    split at hc
    · rename_i b y x hcal hargs hx
      split at hc
      · rename_i hb
        obtain rfl := Option.some.inj hc
        simp only [Bool.and_eq_true, beq_iff_eq] at hb
        obtain ⟨⟨⟨⟨⟨rfl, ha⟩, hd⟩, hp0⟩, _⟩, _⟩ := hb
        have e : ops = #[o1, o2, o3] := by apply Array.ext'; exact hops
        cases m with
        | zero => cases hev
        | succ m =>
          simp only [ev] at hev
          cases hR : C.y with
          | none => rw [hR] at hev; cases hev
          | some R =>
            cases hop : evOps C lo [cOper P ⟨n.n, b :: n.pr, [], false⟩ ops o2] (some (st.set b .u)) with
            | none => rw [hR, hop] at hev; cases hev
            | some st1 =>
              rw [hR, hop] at hev
              simp only [yldK] at hev
              obtain ⟨l, rr, nR, AR, BR, q1, q2, q3, q4, q5, q6, q7, q8, q9, q10, q11, q12, q13⟩ := hC.2.2 R hR
              have hNa := hnN.2.1 _ ha
              have hNd := hnN.2.1 _ hd
              have hK0 := hnN.2.2 0 hp0
              have hb0 : (0 : Nat) ≠ b := fun e0 => by subst e0; rw [hNa.2] at hK0; cases hK0
              have hv0 : a.eval (.tmp 0) = .func (.yield l) #[] #[] := (g.kept 0 hK0).trans q1
              rw [e]
              show (if Region.wanted o1 _ then _ else _)
              rw [if_pos (by simp [Region.wanted, hg1])]
              have hrun1 : (execOp a.eval o1).run P w = .ok (.value (a.eval (.tmp 0))) w := by simp [execOp, ho1]
              rw [hv0] at hrun1
              refine wp_val hrun1 ?_
              show wpOpsIn (FR rd) 0 P #[o1, o2, o3] Q [1, 2] (a.put o1.dst (.func (.yield l) #[] #[])) w
              rw [hd1]
              have g1 := g.put (d := b) hNa (l := .u) (v := .func (.yield l) #[] #[]) (by simp only [LRep])
              have hts : (a.put (some b) (.func (.yield l) #[] #[])).tmps.getD b undef = .func (.yield l) #[] #[] := by rw [put_getD _ _ _ _ (by rw [g.size]; exact hNa.1), if_pos rfl]
              obtain ⟨N2, hN2⟩ : ∃ N2 : Rm, N2 = { N with K := upd N.K b true, T := upd N.T b (.func (.yield l) #[] #[]) } := ⟨_, rfl⟩
              have g2 : Gam N2 w0 ok0 (st.set b .u) ok ρ (a.put (some b) (.func (.yield l) #[] #[])) w := by
                subst hN2
                refine g1.less rfl rfl (fun k hk => ?_) g1.gh fun _ _ h => h
                by_cases ek : k = b
                · subst ek; rw [hts]; exact (upd_same _ _ _).symm
                · simp only [upd_ne _ _ ek] at hk ⊢
                  exact g1.kept k hk
              have hC2 : GoodAt P C N2 lo := by
                subst hN2
                refine ⟨hC.1, hC.2.1, fun R' hR' => ?_⟩
                obtain ⟨l', r', n', A', B', k1, k2⟩ := hC.2.2 R' hR'
                exact ⟨l', r', n', A', B', (upd_ne _ _ hb0).trans k1, k2⟩
              have hn2 : Sl.le ⟨n.n, b :: n.pr, [], false⟩ N2 := by
                subst hN2
                refine ⟨hnN.1, fun k hk => ?_, fun k hk => ?_⟩
                · simp only [Sl.may, Bool.and_eq_true, decide_eq_true_eq, Bool.not_eq_true', List.contains_cons, Bool.or_eq_false_iff] at hk
                  have := hnN.2.1 k (by simp only [Sl.may, Bool.and_eq_true, decide_eq_true_eq, Bool.not_eq_true']; exact ⟨hk.1, hk.2.2⟩)
                  have ek : k ≠ b := by simpa using hk.2.1
                  exact ⟨this.1, (upd_ne _ _ ek).trans this.2⟩
                · by_cases ek : k = b
                  · subst ek; exact upd_same _ _ _
                  · refine (upd_ne _ _ ek).trans (hnN.2.2 k ?_)
                    simp only [List.contains_cons, Bool.or_eq_true, beq_iff_eq] at hk
                    exact hk.resolve_left ek
              simp only [evOps] at hop
              have hop' : evOper C lo (st.set b .u) (cOper P ⟨n.n, b :: n.pr, [], false⟩ #[o1, o2, o3] o2) = some st1 := by
                rw [← e]
                cases hz : evOper C lo (st.set b .u) (cOper P ⟨n.n, b :: n.pr, [], false⟩ ops o2) with
                | none => rw [hz] at hop; cases hop
                | some z => rw [hz] at hop; exact hop
              refine oper_ok (next := wpOpsIn (FR rd) 0 P #[o1, o2, o3] Q [2]) hC2 g2 hn2 hop' fun ok2 ρ2 a2 w2 g3 => ?_
              show (if Region.wanted o3 (yielded #[o1, o2, o3] a2.tmps) then o3.wpIn (FR rd) 0 P a2 w2 (wpOpsIn (FR rd) 0 P #[o1, o2, o3] Q []) Q else _)
              rw [if_pos (by simp [Region.wanted, hg3])]
              have hgh : N2.gh = N.gh := by subst hN2; rfl
              have hres : N2.res = N.res := by subst hN2; rfl
              have hds : N2.ds = N.ds := by subst hN2; rfl
              have hnn : N2.n = N.n := by subst hN2; rfl
              have hvb : a2.eval (.tmp b) = .func (.yield l) #[] #[] := by
                refine (g3.kept b (by subst hN2; exact upd_same _ _ _)).trans ?_
                subst hN2; exact upd_same _ _ _
              have hl2 := (g3.res l _ (by rw [hres]; exact q2)).2.1
              have hxv := rd_ok g3 hx
              obtain ⟨xo, hxo⟩ : ∃ xo, cl.args = #[xo] := ⟨_, by apply Array.ext'; exact hargs⟩
              rw [hxo] at hxv
              simp only [show (#[xo] : Array Operand).getD 0 (.tmp 0) = xo from rfl] at hxv
              obtain ⟨xb, hxb⟩ : ∃ xb, xb = Operand.tmp b := ⟨_, rfl⟩
              rw [← hxb] at hvb hcal
              have hrun3 : (execOp a2.eval o3).run P w2 = .ok (.round l rr.fn (rr.tmps.setIfInBounds R.p (a2.eval xo)) rr.assign rr.body) w2 := by
                have hy := run_yield (P := P) (args := #[a2.eval xo]) hl2 (by simp [q5])
                simp only [q5] at hy
                simp [execOp, ho3, resolve, Deferred.ofValue, hcal, hvb, hxo, invoke, hy]
              refine ⟨fun _ _ => trivial, ?_⟩
              rw [sem_at hrun3 (fun d e => by cases e), Oper.uponIn_round]
              refine ⟨fun h => by simp [FR, Fence.wide] at h, ?_⟩
              cases hrn : ev C.unring R.lo m R.bd ⟨upd R.env R.p (x.rd st1.env), st1.hp⟩ with
              | none => rw [hrn] at hev; cases hev
              | some z =>
                obtain ⟨ez, st3⟩ := z
                rw [hrn] at hev
                cases ez with
                | exit i => cases hev
                | ret => cases hev
                | norm =>
                  simp only [yldD, Option.some.injEq] at hev
                  subst hev
                  rw [q6] at hrn
                  have hpl : R.p < rr.tmps.size := by
                    have : R.p < nR.n := by simp only [Sl.may, Bool.and_eq_true, decide_eq_true_eq] at q9; exact q9.1
                    omega
                  obtain ⟨M, hM⟩ : ∃ M : Rm, M = ⟨rr.tmps.size, nR.pr.contains, fun s => (rr.tmps.setIfInBounds R.p (a2.eval xo)).getD s undef, ghosts (fun k => maskL R.lo R.ks (st1.env k)) a2 N.gh, N.res, []⟩ := ⟨_, rfl⟩
                  have g4 : Gam M w0 ok0 ⟨upd R.env R.p (x.rd st1.env), st1.hp⟩ ok2 ρ2 { tmps := rr.tmps.setIfInBounds R.p (a2.eval xo), defers := [] } w2 := by
                    subst hM
                    refine g3.frame (by simp) rfl (fun _ _ => rfl) (fun k => ?_) (fun k => ?_) (fun c o h => by rw [hres]; exact h)
                    · show LRep w2 ok2 ρ2 st1.hp (ghosts (fun k => maskL R.lo R.ks (st1.env k)) a2 N.gh k).1 (ghosts (fun k => maskL R.lo R.ks (st1.env k)) a2 N.gh k).2
                      unfold ghosts
                      split
                      · exact maskL_diag q13 (g3.env _)
                      · rw [← hgh]; exact g3.gh _
                    · show LRep w2 ok2 ρ2 st1.hp (upd R.env R.p (x.rd st1.env) k) ((rr.tmps.setIfInBounds R.p (a2.eval xo)).getD k undef)
                      simp only [upd, Array.getD_eq_getD_getElem?, Array.getElem?_setIfInBounds]
                      by_cases ek : k = R.p
                      · subst ek; simp only [if_pos, hpl]; exact hxv
                      · rw [if_neg ek, if_neg (fun e' => ek e'.symm)]
                        obtain ⟨j, hj⟩ := q10 k
                        have := g3.gh j
                        rw [hgh, hj] at this
                        simpa [Array.getD_eq_getD_getElem?] using this
                  have hnM : nR.le M := by
                    subst hM
                    refine ⟨q8, fun k hk => ?_, fun k hk => hk⟩
                    simp only [Sl.may, Bool.and_eq_true, decide_eq_true_eq, Bool.not_eq_true'] at hk
                    exact ⟨Nat.lt_of_lt_of_le hk.1 q8, hk.2⟩
                  have hstM : Stable M R.lo AR BR := by
                    subst hM
                    refine ⟨fun id k hok => ?_, fun id k hok => ?_⟩
                    · show maskL R.lo _ (ghosts (fun k => maskL R.lo R.ks (st1.env k)) a2 N.gh k).1 = (ghosts (fun k => maskL R.lo R.ks (st1.env k)) a2 N.gh k).1
                      unfold ghosts
                      split
                      · exact q12.1 _ _ hok
                      · exact q11.1 _ _ hok
                    · show maskL R.lo _ (ghosts (fun k => maskL R.lo R.ks (st1.env k)) a2 N.gh k).1 = (ghosts (fun k => maskL R.lo R.ks (st1.env k)) a2 N.gh k).1
                      unfold ghosts
                      split
                      · exact q12.2 _ _ hok
                      · exact q11.2 _ _ hok
                  refine round_ok (fun k hk => IH k (Nat.lt_succ_of_lt hk)) hC.1.unring (fun _ _ _ _ => rfl) rfl hnM hstM q7 (by subst hM; exact q2) q3 q4 hrn g4 _ fun N' ok' ρ' a' w' e' g' => ?_
                  show Q .normal (a2.put o3.dst (.bool true)) w'
                  rw [hd3]
                  have hMgh : ∀ k, N'.gh k = ghosts (fun k => maskL R.lo R.ks (st1.env k)) a2 N.gh k := fun k => by rw [e'.gh]; subst hM; rfl
                  have g5 : Gam { N with res := N'.res } w0 ok0 ⟨fun k => maskL R.lo R.ks (st1.env k), st3.hp⟩ ok' ρ' a2 w' := by
                    refine g'.frame (by rw [g3.size, hnn]) (by rw [g3.defers, hds]) (fun k hk => ?_) (fun k => ?_) (fun k => ?_) (fun c o h => h)
                    · have hkb : k ≠ b := fun ek => by subst ek; rw [hNa.2] at hk; cases hk
                      have := g3.kept k (by subst hN2; exact (upd_ne _ _ hkb).trans hk)
                      refine this.trans ?_
                      subst hN2
                      exact upd_ne _ _ hkb
                    · have := g'.gh (2 * k + 1)
                      rw [hMgh, ghosts_gh] at this
                      exact this
                    · have := g'.gh (2 * k)
                      rw [hMgh, ghosts_env] at this
                      exact this
                  have ex : Ext N { N with res := N'.res } := ⟨rfl, rfl, rfl, rfl, fun c o h => e'.res c o (by subst hM; exact h), [], rfl, trivial⟩
                  have g6 := g5.put (d := d) hNd (l := .v (.bool true)) (v := .bool true) (by simp only [LRep, TRep])
                  exact hq _ _ _ _ _ ex (g6.gc hgc hstk)
      · cases hc
    · cases hc
  · cases hc

theorem itF_some {l : LV} {ic : ICode} {caps : List LV} (h : itF C l = some (ic, caps)) {w : World} {ok : Nat → Prop} {ρ : Rho} {hp : Hp} {v : Value} (hv : LRep w ok ρ hp l v) :
    ∃ f cs, v = .func (.func f) #[] cs ∧ C.it f = some ic ∧ LReps w ok ρ hp false caps cs.toList := by
  have key : ∀ {f : FuncId} {cp : List LV}, itC cp (C.it f) = some (ic, caps) → C.it f = some ic ∧ cp = caps := by
    intro f cp h
    unfold itC at h
    split at h
    · rename_i c hc
      simp only [Option.some.injEq, Prod.mk.injEq] at h
      exact ⟨by rw [hc, h.1], h.2⟩
    · cases h
  unfold itF at h
  split at h
  · obtain ⟨k1, rfl⟩ := key h
    simp only [LRep] at hv
    obtain ⟨cs, e1, e2⟩ := hv
    exact ⟨_, cs, e1, k1, e2⟩
  · obtain ⟨k1, rfl⟩ := key h
    simp only [LRep, TRep] at hv
    obtain ⟨cs, e1, e2⟩ := hv
    exact ⟨_, cs, e1, k1, liftV_lreps e2⟩
  · cases h
theorem keepEnv_is {lo : Nat} {j : List (Nat × Nat)} {e : Nat → LV} (k : Nat) : ∀ sl : List Nat, keepEnv lo j e sl k = maskL lo j (e k) ∨ keepEnv lo j e sl k = .u
  | [] => .inr rfl
  | x :: xs => by
    simp only [keepEnv, upd]
    split
    · rename_i e'; subst e'; exact .inl rfl
    · exact keepEnv_is k xs

theorem rng_ok {m : Nat} (IH : CodeOk P m) (hC : GoodAt P C N lo) (hnN : n.le N) (hlow : ∀ k, maskL lo [] (N.gh k).1 = (N.gh k).1) {x : Operand} {ps : Array Tmp} {ac bd : Code} {y : X} {p : Nat} {gc : GC}
    (hx : cX P 0 x = some y) (hps : ps.toList = [p]) (hrok : rngOk gc = true) (hp : n.may p = true) {st : St} {r : Ex × St} {ok : Nat → Prop} {ρ : Rho} {a : Act} {w : World} {Q : Exit → Act → World → Prop}
    (h : ev C lo (m + 1) (.rng y p (cCode P n.inner (addKs (ksOf gc) A) (addKs (ksOf gc) B) ac) (cCode P n.inner (addKs (ksOf gc) A) (addKs (ksOf gc) B) bd) gc (ksOf gc)) st = some r)
    (g : Gam N w0 ok0 st ok ρ a w) (hq : Out N w0 ok0 r Q) : (Code.rangeFunc x ps ac bd).wpIn (FR none) 0 P Q a w := by
  simp only [ev] at h
  simp only [rngOk, Bool.and_eq_true] at hrok
  have g1 := g.gc (lo := lo) hrok.1 fun k => low_fix (Nat.le_refl _) (hlow k) _
  obtain ⟨st1, hst1⟩ : ∃ st1, st1 = gc.run lo st := ⟨_, rfl⟩
  rw [← hst1] at h g1
  have hv := rd_ok g1 hx
  cases hit : itF C (y.rd st1.env) with
  | none => rw [hit] at h; cases h
  | some q =>
    obtain ⟨ic, caps⟩ := q
    rw [hit] at h
    simp only [rngK] at h
    obtain ⟨f, cs, hax, hfit, hcaps⟩ := itF_some hit hv
    obtain ⟨fn, c0, A', B', k1, k2, k3, k4, k5⟩ := hC.1.2.2 f ic hfit
    simp only [cFn, k3] at k4
    subst k4
    obtain ⟨R, hR⟩ : ∃ R : Rnd, R = ⟨.seq (cCode P n.inner (addKs (ksOf gc) A) (addKs (ksOf gc) B) ac) (cCode P n.inner (addKs (ksOf gc) A) (addKs (ksOf gc) B) bd), p, st1.env, lo, ksOf gc⟩ := ⟨_, rfl⟩
    rw [← hR] at h
    cases hrun : ev (C.ring R) (lo + 1000000) m (orBad (fn.results.toList.all (resOk P)) (cCode P ⟨fn.ntmps, (look 1000003 A').slots, (look 1000000 A').slots, true⟩ A' B' c0)) ⟨bindL 1 caps, st1.hp⟩ with
    | none => rw [hrun] at h; cases h
    | some z =>
    obtain ⟨ez, st2⟩ := z
    rw [hrun] at h
    have hr : (ez = .norm ∨ ez = .ret) ∧ r = (.norm, ⟨st1.env, keepHp (lo + 1000000) [] st2.hp []⟩) := by
      cases ez with
      | norm => exact ⟨.inl rfl, (Option.some.inj h).symm⟩
      | ret => exact ⟨.inr rfl, (Option.some.inj h).symm⟩
      | exit i => cases h
    obtain ⟨hez, rfl⟩ := hr
    obtain ⟨hres, hrun⟩ := orBad_ok hrun
    have hnum : fn.name ≠ "runtime.NumGoroutine" := by simpa using k2
    have hlowE : ∀ k, ∃ l, st1.env k = maskL lo gc.ids l := fun k => by
      rw [hst1]
      rcases keepEnv_is (lo := lo) (j := gc.ids) (e := st.env) k gc.slots with e | e
      · exact ⟨_, e⟩
      · exact ⟨.u, e⟩
    refine wpIn_rangeFunc fun fnid _ => ?_
    obtain ⟨r0, hr0⟩ : ∃ r0 : Loop, r0 = { state := .ready, pending := none, fn := fnid, tmps := a.tmps, params := ps, assign := ac, body := bd, defers := w.heap.size } := ⟨_, rfl⟩
    obtain ⟨w1, hw1⟩ : ∃ w1, w1 = (w.alloc (.deferred (some []))).alloc (.loop r0) := ⟨_, rfl⟩
    refine ⟨w.heap.size + 1, [{ target := .collected w.heap.size, args := #[] }], w1, { target := .fn (.func f) cs, args := #[.func (.yield (w.heap.size + 1)) #[] #[]] }, w1, f,
      #[.func (.yield (w.heap.size + 1)) #[] #[]] ++ cs, w1, ?_, ?_, fun _ _ => trivial, ?_, fun h => by simp [FR, Fence.wide] at h, ?_⟩
    · rw [hw1, hr0]; exact run_enterLoop_outer _ _ _ _ _
    · simp only [resolve, hax]
      simp [go_sem]
    · simp [invoke, callFunc, k1, hnum, k3]
    · obtain ⟨tm, htm⟩ : ∃ tm : Array Value, tm = ((#[.func (.yield (w.heap.size + 1)) #[] #[]] : Array Value) ++ cs) ++ Array.replicate (fn.ntmps - ((#[.func (.yield (w.heap.size + 1)) #[] #[]] : Array Value) ++ cs).size) undef := ⟨_, rfl⟩
      refine callsIn_of_wp_marks k1 k3 trivial ?_
      rw [← htm]
      have g2 := (g1.reserve (.deferred (some []))).reserve (.loop r0)
      simp only [World.size_alloc] at g2
      rw [← hw1] at g2
      obtain ⟨N2, hN2⟩ : ∃ N2, N2 = (N.with w.heap.size (.deferred (some []))).with (w.heap.size + 1) (.loop r0) := ⟨_, rfl⟩
      rw [← hN2] at g2
      have hND : N.res w.heap.size = none := g1.res_none
      have r1 : N2.res (w.heap.size + 1) = some (.loop r0) := by rw [hN2, with_at]
      have r2 : N2.res w.heap.size = some (.deferred (some [])) := by rw [hN2, with_ne _ _ (by omega), with_at]
      have r3 : ∀ b o, N.res b = some o → N2.res b = some o := fun b o hb => by
        have hlt := (Array.getElem?_eq_some_iff.1 (g1.res b o hb).2.1).1
        rw [hN2, with_ne _ _ (by omega), with_ne _ _ (by omega)]
        exact hb
      obtain ⟨M, hM⟩ : ∃ M : Rm, M = ⟨tm.size, ((look 1000003 A').slots).contains, fun s => tm.getD s undef, ghosts st1.env a N.gh, N2.res, []⟩ := ⟨_, rfl⟩
      have hMgh : ∀ k, M.gh k = ghosts st1.env a N.gh k := fun k => by rw [hM]
      have hbw : Below w.heap.size w w1 := by rw [hw1]; exact ((Below.refl _ w).alloc (Nat.le_refl _) _).alloc (by simp) _
      have hsame : Same w w1 ok ok := fun b hb => ⟨hbw.block b (g.free b hb).1, hb⟩
      have hsz : fn.ntmps ≤ tm.size := by rw [htm]; simp; omega
      have g3 : Gam M w0 ok0 ⟨bindL 1 caps, st1.hp⟩ ok (keepRho lo ρ gc.ids) { tmps := tm, defers := [] } w1 := by
        rw [hM]
        refine g2.frame rfl rfl (fun _ _ => rfl) (fun k => ?_) (fun k => ?_) (fun c o h => h)
        · show LRep w1 ok (keepRho lo ρ gc.ids) st1.hp (ghosts st1.env a N.gh k).1 (ghosts st1.env a N.gh k).2
          unfold ghosts
          split
          · exact g2.env _
          · have := g2.gh (k / 2)
            rw [hN2] at this
            exact this
        · show LRep w1 ok (keepRho lo ρ gc.ids) st1.hp (bindL 1 caps k) (tm.getD k undef)
          rw [bindL_eq]
          split
          · rename_i h1
            cases hk : caps[k - 1]? with
            | none => simp only [LRep]
            | some t =>
              obtain ⟨v, q1, _, q3⟩ := hcaps.get _ t hk
              have hlt := (List.getElem?_eq_some_iff.1 q1).1
              have e : tm.getD k undef = v := by
                rw [htm, Array.getD_eq_getD_getElem?, Array.getElem?_append_left (by simp at hlt ⊢; omega), Array.getElem?_append_right (by simp; omega)]
                have e2 : cs[k - 1]? = some v := by simpa using q1
                show (cs[k - 1]?).getD undef = v
                rw [e2]
                rfl
              simp only [e]
              exact q3.to hsame (Later.refl _ _)
          · simp only [LRep]
      have hT0 : M.T 0 = .func (.yield (w.heap.size + 1)) #[] #[] := by
        rw [hM]
        show tm.getD 0 undef = _
        rw [htm, Array.getD_eq_getD_getElem?, Array.getElem?_append_left (by simp; omega), Array.getElem?_append_left (by simp)]
        rfl
      have hpa : ps = #[p] := by apply Array.ext'; exact hps
      have hgA : ∀ k, maskL (lo + 1000000) [] (M.gh k).1 = (M.gh k).1 := fun k => by
        rw [hMgh]
        unfold ghosts
        split
        · obtain ⟨l, hl⟩ := hlowE (k / 2)
          show maskL _ _ (st1.env (k / 2)) = st1.env (k / 2)
          rw [hl]
          exact keep_low (fun q hq => by have := List.all_eq_true.1 hrok.2 q hq; exact of_decide_eq_true this) l
        · exact low_fix (by omega) (hlow _) _
      have hgR : ∀ {A : List (Nat × GC)} id k, (look id (addKs (ksOf gc) A)).ok = true → maskL lo (look id (addKs (ksOf gc) A)).ids (M.gh k).1 = (M.gh k).1 := fun id k hok => by
        rw [hMgh]
        unfold ghosts
        split
        · obtain ⟨l, hl⟩ := hlowE (k / 2)
          show maskL _ _ (st1.env (k / 2)) = st1.env (k / 2)
          rw [hl]
          exact keep_ks (ksOf_diag gc) (fun q hq => List.mem_cons_of_mem _ (List.mem_map.2 ⟨q, hq, rfl⟩)) hok l
        · exact low_fix (Nat.le_refl _) (hlow _) _
      have hkk : ∀ {A : List (Nat × GC)} id l, (look id (addKs (ksOf gc) A)).ok = true → maskL lo (look id (addKs (ksOf gc) A)).ids (maskL lo (ksOf gc) l) = maskL lo (ksOf gc) l := fun id l hok =>
        keep_ks (ksOf_diag gc) (fun q hq => by have := ksOf_diag gc q hq; rw [← this]; have e : q = (q.1, q.1) := Prod.ext rfl this.symm; rw [← e]; exact hq) hok l
      have hCM : GoodAt P (C.ring R) M (lo + 1000000) := by
        refine ⟨hC.1.ring R, fun f lo' hp args r hc => (by cases hc), fun R' hR' => ?_⟩
        obtain rfl : R = R' := Option.some.inj hR'
        refine ⟨w.heap.size + 1, r0, n.inner, addKs (ksOf gc) A, addKs (ksOf gc) B, hT0, by rw [hM]; exact r1, by rw [hr0], by rw [hr0], by rw [hr0, hR]; exact hpa, by rw [hR, hr0], rfl, ?_, by rw [hR]; exact hp, fun k => ⟨2 * k, ?_⟩, ⟨?_, ?_⟩, ⟨?_, ?_⟩, ?_⟩
        · rw [hr0]
          show n.n ≤ a.tmps.size
          rw [g.size]
          exact hnN.1
        · rw [hMgh, ghosts_env, hR, hr0]
        · rw [hR]; exact hgR
        · rw [hR]; exact hgR
        · rw [hR]; exact hkk
        · rw [hR]; exact hkk
        · rw [hR]; exact ksOf_diag gc
      have hnM : Sl.le ⟨fn.ntmps, (look 1000003 A').slots, (look 1000000 A').slots, true⟩ M := by
        rw [hM]
        refine ⟨hsz, fun d hd => ?_, fun d hd => hd⟩
        simp only [Sl.may, Bool.and_eq_true, decide_eq_true_eq, Bool.not_eq_true'] at hd
        exact ⟨Nat.lt_of_lt_of_le hd.1 hsz, hd.2⟩
      have hstM : Stable M (lo + 1000000) A' B' := ⟨fun id k _ => low_fix (Nat.le_refl _) (hgA k) _, fun id k _ => low_fix (Nat.le_refl _) (hgA k) _⟩
      refine IH hCM hnM hstM (fun _ => ⟨rfl, hgA⟩) c0 hrun g3 fun N' ok' ρ' a' w' e' g' => ?_
      have hend : LeavesInM (FR none) 0 P fn a'.tmps (rangePost (FR none) 0 P (w.heap.size + 1) Q { a with defers := [{ target := .collected w.heap.size, args := #[] }] ++ a.defers }) a'.defers .returning w' := by
        obtain ⟨ms, d1, d2⟩ := e'.ds
        have hds : a'.defers = ms := by rw [g'.defers, d1, hM]; simp
        rw [hds]
        refine leaves_marks ms g' d2 e'.gh e'.res fun N3 w3 g5 hgh3 hres3 => ⟨.tuple #[], by simp [results, k5], ?_⟩
        have hM1 : M.res (w.heap.size + 1) = some (.loop r0) := by rw [hM]; exact r1
        have hM2 : M.res w.heap.size = some (.deferred (some [])) := by rw [hM]; exact r2
        have hM3 : ∀ b o, N.res b = some o → M.res b = some o := by rw [hM]; exact r3
        have hl3 := (g5.res _ _ (hres3 _ _ hM1)).2.1
        have hE := run_endLoop (P := P) hl3 (by rw [hr0]; simp)
        have hpen : r0.pending = none := by rw [hr0]
        refine ⟨none, _, hE.trans (congrArg (fun x => Result.ok x (w3.putObj (w.heap.size + 1) (.loop { r0 with state := .exhausted }))) hpen), ?_⟩
        have g6 : Gam N3 w0 ok0 ⟨keepEnv (lo + 1000000) [] st2.env [], keepHp (lo + 1000000) [] st2.hp []⟩ ok' (keepRho (lo + 1000000) ρ' []) a' w3 := g5.gc (lo := lo + 1000000) (G := ⟨[], []⟩) rfl fun k => by rw [hgh3]; exact hgA k
        have g7 := g6.reput (hres3 _ _ hM1) (.loop { r0 with state := .exhausted })
        have hgh : ∀ k, (N3.with (w.heap.size + 1) (.loop { r0 with state := .exhausted })).gh k = ghosts st1.env a N.gh k := fun k => by
          show N3.gh k = _
          rw [hgh3]
          exact hMgh k
        have ex : Ext N { N with res := ((N.with w.heap.size (.deferred (some []))).with (w.heap.size + 1) (.loop { r0 with state := .exhausted })).res, ds := { target := .collected w.heap.size, args := #[] } :: N.ds } := by
          refine ⟨rfl, rfl, rfl, rfl, fun b o hb => ?_, [{ target := .collected w.heap.size, args := #[] }], rfl, ⟨w.heap.size, rfl, hND, ?_, by simp⟩, trivial⟩
          · have hlt := (Array.getElem?_eq_some_iff.1 (g1.res b o hb).2.1).1
            show ((N.with w.heap.size (.deferred (some []))).with (w.heap.size + 1) (.loop { r0 with state := .exhausted })).res b = some o
            rw [with_ne _ _ (by omega), with_ne _ _ (by omega)]
            exact hb
          · show ((N.with w.heap.size (.deferred (some []))).with (w.heap.size + 1) (.loop { r0 with state := .exhausted })).res w.heap.size = _
            rw [with_ne _ _ (by omega), with_at]
        refine hq _ ok' (keepRho (lo + 1000000) ρ' []) _ _ ex (g7.frame (env := st1.env) (b := { a with defers := [{ target := .collected w.heap.size, args := #[] }] ++ a.defers })
          (M := { N with res := ((N.with w.heap.size (.deferred (some []))).with (w.heap.size + 1) (.loop { r0 with state := .exhausted })).res, ds := { target := .collected w.heap.size, args := #[] } :: N.ds }) g.size (by show [_] ++ a.defers = _ :: N.ds; rw [g.defers]; rfl) (fun k hk => g.kept k hk) (fun k => ?_) (fun k => ?_) (fun b o hb => ?_))
        · have := g7.gh (2 * k + 1)
          rw [hgh, ghosts_gh] at this
          exact this
        · have := g7.gh (2 * k)
          rw [hgh, ghosts_env] at this
          exact this
        · have hb' : ((N.with w.heap.size (.deferred (some []))).with (w.heap.size + 1) (.loop { r0 with state := .exhausted })).res b = some o := hb
          by_cases e1 : b = w.heap.size + 1
          · subst e1; rw [with_at] at hb' ⊢; exact hb'
          · rw [with_ne _ _ e1] at hb' ⊢
            by_cases e2 : b = w.heap.size
            · subst e2; rw [with_at] at hb'; rw [← hb']; exact hres3 _ _ hM2
            · rw [with_ne _ _ e2] at hb'; exact hres3 _ _ (hM3 _ _ hb')
      rcases hez with rfl | rfl
      · exact hend
      · exact hend

theorem code_ok' (hmix : P.follows .mixedOrders = true) : ∀ m, CodeOk P m := by
  intro m
  induction m using Nat.strongRecOn with
  | _ m IH =>
  intro rd C N w0 ok0 lo n A B hC hnN hst hrg c
  induction c with
  | skip =>
    intro st r ok ρ a w Q h g hq
    cases m with
    | zero => cases h
    | succ m =>
      obtain rfl := Option.some.inj h
      exact wpIn_skip (hq _ _ _ _ _ (Ext.refl _) g)
  | region id ops draw =>
    intro st r ok ρ a w Q h g hq
    cases draw with
    | false =>
      simp only [cCode] at h
      obtain ⟨hg, h⟩ := orBad_ok h
      cases hy : yldOf P n ops (look id A) with
      | none =>
        rw [hy] at h
        simp only [orReg] at h
        cases m with
        | zero => cases h
        | succ m =>
          simp only [ev] at h
          obtain ⟨st1, h1, rfl⟩ := regK_some h
          rw [evOps_idx (cOpers P n ops ops.toList) (cOpers P n ops ops.toList) 0 st (by simp), cOpers_length, ← List.range_eq_range'] at h1
          refine wpIn_region (wpOps_ok hC hnN g (by simpa using h1) fun ok ρ a w g' => hq _ _ _ _ _ (Ext.refl _) (g'.gc hg (fun k => hst.1 _ k hg)))
      | some c =>
        rw [hy] at h
        simp only [orReg] at h
        unfold yldOf at hy
        split at hy
        · rename_i o1 o2 o3 hops
          exact wpIn_region (yld_ok IH hC hnN hops hy h hg (fun k => hst.1 _ k hg) g hq)
        · cases hy
    | true =>
      simp only [cCode] at h
      obtain ⟨hg, h⟩ := orBad_ok h
      simp only [Bool.and_eq_true] at hg
      cases m with
      | zero => cases h
      | succ m =>
        simp only [ev] at h
        obtain ⟨st1, h1, rfl⟩ := regK_some h
        refine wpIn_region_draw fun t => ?_
        rw [hmix]
        exact wpOps_ok hC hnN g.drew (draw_idx h1 hg.2 t) fun ok ρ a w g' => hq _ _ _ _ _ (Ext.refl _) (g'.gc hg.1 (fun k => hst.1 _ k hg.1))
  | seq x y ihx ihy =>
    intro st r ok ρ a w Q h g hq
    cases m with
    | zero => cases h
    | succ m =>
      simp only [cCode, ev] at h
      refine wpIn_seq ?_
      cases hx : ev C lo m (cCode P n A B x) st with
      | none => rw [hx] at h; cases h
      | some q =>
        rw [hx] at h
        refine IH m (Nat.lt_succ_self _) hC hnN hst hrg x hx g fun N' ok' ρ' a' w' e' g' => ?_
        obtain ⟨e, st1⟩ := q
        cases e with
        | norm => exact IH m (Nat.lt_succ_self _) (e'.good hC) (e'.le hnN) (e'.stable hst) (e'.rg hrg) y h g' fun N2 ok2 ρ2 a2 w2 e2 g2 => hq _ _ _ _ _ (e'.trans e2) g2
        | exit i =>
          obtain rfl := Option.some.inj h
          exact hq _ _ _ _ _ e' g'
        | ret =>
          obtain rfl := Option.some.inj h
          exact hq _ _ _ _ _ e' g'
  | cond c x y ihx ihy =>
    intro st r ok ρ a w Q h g hq
    simp only [cCode] at h
    split at h
    · rename_i x' hx
      cases m with
      | zero => cases h
      | succ m =>
        simp only [ev] at h
        have hr := rd_ok g hx
        unfold condK at h
        split at h
        · rename_i hb
          rw [hb] at hr
          simp only [LRep, TRep] at hr
          split at h
          · rename_i e
            subst e
            exact wpIn_cond_true hr (IH m (Nat.lt_succ_self _) hC hnN hst hrg x h g hq)
          · rename_i b e
            cases b with
            | true => exact absurd rfl e
            | false => exact wpIn_cond_false hr (IH m (Nat.lt_succ_self _) hC hnN hst hrg y h g hq)
        · cases h
    · exact (ev_bad h).elim
  | block id b ih =>
    intro st r ok ρ a w Q h g hq
    cases m with
    | zero => cases h
    | succ m =>
      simp only [cCode, ev] at h
      refine wpIn_block ?_
      cases hx : ev C lo m (cCode P n A B b) st with
      | none => rw [hx] at h; cases h
      | some q =>
        rw [hx] at h
        refine IH m (Nat.lt_succ_self _) hC hnN hst hrg b hx g fun N' ok' ρ' a' w' e' g' => ?_
        obtain ⟨e, st1⟩ := q
        cases e with
        | norm =>
          obtain rfl := Option.some.inj h
          exact hq _ _ _ _ _ e' g'
        | exit i =>
          simp only [blockK] at h
          simp only [toExit, Exit.inBlock]
          split at h
          · rename_i e
            rw [if_pos e]
            obtain rfl := Option.some.inj h
            exact hq _ _ _ _ _ e' g'
          · rename_i e
            rw [if_neg e]
            obtain rfl := Option.some.inj h
            exact hq _ _ _ _ _ e' g'
        | ret =>
          obtain rfl := Option.some.inj h
          exact hq _ _ _ _ _ e' g'
  | loop b ih =>
    intro st r ok ρ a w Q h g hq
    simp only [cCode] at h
    refine wp_loop_fuel (fun k a w => ∃ N' st ok ρ, k ≤ m ∧ Ext N N' ∧ ev C lo k (.loop (cCode P n A B b)) st = some r ∧ Gam N' w0 ok0 st ok ρ a w) (k := m) ⟨N, st, ok, ρ, Nat.le_refl _, Ext.refl _, h, g⟩ ?_
    rintro k a w ⟨N1, st, ok, ρ, hk, e1, h, g⟩
    cases k with
    | zero => cases h
    | succ k =>
      simp only [ev] at h
      cases hx : ev C lo k (cCode P n A B b) st with
      | none => rw [hx] at h; cases h
      | some q =>
        rw [hx] at h
        refine IH k hk (e1.good hC) (e1.le hnN) (e1.stable hst) (e1.rg hrg) b hx g fun N' ok' ρ' a' w' e' g' => ?_
        obtain ⟨e, st1⟩ := q
        cases e with
        | norm => exact ⟨k, Nat.lt_succ_self _, N', st1, ok', ρ', Nat.le_of_lt hk, e1.trans e', h, g'⟩
        | exit i =>
          obtain rfl := Option.some.inj h
          exact hq _ _ _ _ _ (e1.trans e') g'
        | ret =>
          obtain rfl := Option.some.inj h
          exact hq _ _ _ _ _ (e1.trans e') g'
  | exit id =>
    intro st r ok ρ a w Q h g hq
    simp only [cCode] at h
    obtain ⟨hg, h⟩ := orBad_ok h
    match m, h with
    | 0, h => cases h
    | 1, h => cases h
    | m + 2, h =>
      obtain rfl := Option.some.inj h
      exact wpIn_exit (hq _ _ _ _ _ (Ext.refl _) (g.gc hg (fun k => hst.2 _ k hg)))
  | ret =>
    intro st r ok ρ a w Q h g hq
    cases m with
    | zero => cases h
    | succ m =>
      obtain rfl := Option.some.inj h
      exact wpIn_ret (hq _ _ _ _ _ (Ext.refl _) g)
  | scope b ih =>
    intro st r ok ρ a w Q h g hq
    simp only [cCode] at h
    refine wpIn_scope_straight (ih h g fun N' ok ρ a w e' g' => ?_)
    have := hq N' ok ρ a w e' g'
    obtain ⟨e, st1⟩ := r
    cases e <;> exact this
  | label l =>
    intro st r ok ρ a w Q h g hq
    cases m with
    | zero => cases h
    | succ m =>
      obtain rfl := Option.some.inj h
      exact wpIn_label (hq _ _ _ _ _ (Ext.refl _) g)
  | rangeFunc x ps ac bd iha ihb =>
    intro st r ok ρ a w Q h g hq
    simp only [cCode] at h
    split at h
    · rename_i y p hx hps
      obtain ⟨hg, h⟩ := orBad_ok h
      simp only [Bool.and_eq_true] at hg
      obtain ⟨rfl, hlow⟩ := hrg hg.1.1
      cases m with
      | zero => cases h
      | succ m => exact rng_ok (IH m (Nat.lt_succ_self _)) hC hnN hlow hx hps hg.1.2 hg.2 h g hq
    · exact (ev_bad h).elim
  | _ => intro st r ok ρ a w Q h g hq; exact (ev_bad h).elim
end
end Go.Proofs.Ytpccjkabffpnhaa.Sx
