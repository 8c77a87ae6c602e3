/- Every operation of the evaluator is sound. -/
import Derived.Test.YtehcfmohjcjmpaaSxCall2
import Derived.Test.YtehcfmohjcjmpaaSxOpsM
namespace Go.Proofs.Ytehcfmohjcjmpaa.Sx
open Go Go.RowKit

section
variable {P : Program} {C : FuncId → List TV → Option TV} {N : Nat} {w0 : World} {ok0 : Nat → Prop} {ok : Nat → Prop} {a : Act} {w w' : World} {st st' : St} {ρ : Rho}
  {next : Act → World → Prop} {Q : Exit → Act → World → Prop} {o : Oper} {lo : Nat}

theorem arr_of {α : Type} {xs : Array α} {l : List α} (h : xs.toList = l) : xs = l.toArray := by rw [← h]

theorem plainTy_ok {t : TypeId} {n : Nat} (h : plainTy P t n = true) : (∃ k, P.underlying t = some k) ∧ (isAggB P t = false → n = 1) := by
  simp only [plainTy, Bool.and_eq_true, Bool.or_eq_true, beq_iff_eq] at h
  refine ⟨Option.isSome_iff_exists.1 h.1, fun e => ?_⟩
  rcases h.2 with h | h
  · rw [e] at h; cases h
  · exact h

theorem slice_or_string {t : TypeId} (h : sliceOrString P t = true) : (∃ e', P.underlying t = some (.slice e')) ∨ P.underlying t = some .string := by
  unfold sliceOrString at h
  split at h
  · exact .inl ⟨_, by assumption⟩
  · exact .inr (by assumption)
  · cases h

theorem int_ty {t : TypeId} (h : intTy P t = true) : ∃ k, P.underlying t = some (.int k) := by
  unfold intTy at h
  split at h
  · exact ⟨_, by assumption⟩
  · cases h
theorem cNilBin_ok (g : Gam N w0 ok0 st ok ρ a w) {d : Nat} (hd : o.dst = some d) (hN : d < N) {op : BinOp} {t u : TypeId} {x y : Operand} {ptr : Bool} (ho : o.op = .binOp op t x y u) (hy : isNilC P t y = some ptr) {i : IOp} (hc : cNilBin P d op t ptr x = some i)
    (he : evOp C lo st i = some st') (hn : Into N w0 ok0 st' next) : i.dst = some d ∧ o.wp P a w next Q := by
  unfold cNilBin at hc
  split at hc
  · rename_i hx
    obtain rfl := Option.some.inj hc
    exact ⟨rfl, op_isnil g hd hN (neg := false) ho hx hy he hn⟩
  · rename_i hx
    obtain rfl := Option.some.inj hc
    exact ⟨rfl, op_isnil g hd hN (neg := true) ho hx hy he hn⟩
  · cases hc
theorem cBin_ok (g : Gam N w0 ok0 st ok ρ a w) {d : Nat} (hd : o.dst = some d) (hN : d < N) {op : BinOp} {t u : TypeId} {x y : Operand} (ho : o.op = .binOp op t x y u) {i : IOp} (hc : cBin P d op t x y u = some i)
    (he : evOp C lo st i = some st') (hn : Into N w0 ok0 st' next) : i.dst = some d ∧ o.wp P a w next Q := by
  unfold cBin at hc
  split at hc
  · rename_i fs hu
    split at hc
    · cases hc
    · rename_i hg
      have hg' : P.eqGuardType P.depth t = false := by simpa using hg
      split at hc
      · rename_i ks a' b' hk hx hy
        obtain rfl := Option.some.inj hc
        exact ⟨rfl, op_eqs g hd hN ho (neg := false) rfl hx hy hu hk hg' he hn⟩
      · rename_i ks a' b' hk hx hy
        obtain rfl := Option.some.inj hc
        exact ⟨rfl, op_eqs g hd hN ho (neg := true) rfl hx hy hu hk hg' he hn⟩
      · cases hc
  · split at hc
    · rename_i hx hy
      obtain rfl := Option.some.inj hc
      exact ⟨rfl, op_bin g hd hN ho hx hy (by simp) he hn⟩
    · cases hc
  · rename_i hu
    split at hc
    · rename_i hx hy
      obtain rfl := Option.some.inj hc
      exact ⟨rfl, op_bin g hd hN ho hx hy (fun _ => hu) he hn⟩
    · cases hc
  · split at hc
    · rename_i hx hy
      obtain rfl := Option.some.inj hc
      exact ⟨rfl, op_bin g hd hN ho hx hy (by simp) he hn⟩
    · cases hc
  · cases hc

theorem cCall_ok (hC : Good P C) (g : Gam N w0 ok0 st ok ρ a w) {d : Nat} (hd : o.dst = some d) (hN : d < N) {c : Call} {ty : TypeId} (ho : o.op = .call c) {i : IOp} (hc : cCall P d ty c = some i)
    (he : evOp C lo st i = some st') (hn : Into N w0 ok0 st' next) : i.dst = some d ∧ o.wp P a w next Q := by
  obtain ⟨callee, args, argTypes⟩ := c
  unfold cCall at hc
  simp only at hc
  split at hc
  · rename_i x t h1 h2
    have h1 := arr_of h1
    have h2 := arr_of h2
    subst h1 h2
    split at hc
    · rename_i hu hx
      obtain rfl := Option.some.inj hc
      exact ⟨rfl, op_len g hd hN ho hx (z := false) (by simp) (fun _ => ⟨_, hu⟩) he hn⟩
    · rename_i hu hx
      obtain rfl := Option.some.inj hc
      exact ⟨rfl, op_len g hd hN ho hx (z := true) (fun _ => hu) (by simp) he hn⟩
    · rename_i hu hx
      obtain rfl := Option.some.inj hc
      exact ⟨rfl, op_mlen g hd hN ho hx hu he hn⟩
    · cases hc
  · rename_i x t h1 h2
    have h1 := arr_of h1
    have h2 := arr_of h2
    subst h1 h2
    split at hc
    · rename_i hu hx
      obtain rfl := Option.some.inj hc
      exact ⟨rfl, op_cap g hd hN ho hx hu he hn⟩
    · cases hc
  · rename_i x y t u h1 h2
    have h1 := arr_of h1
    have h2 := arr_of h2
    subst h1 h2
    split at hc
    · rename_i e ht
      split at hc
      · rename_i i z a' b' hi hz hx hy
        split at hc
        · rename_i hh
          split at hc
          · rename_i hs
            obtain rfl := Option.some.inj hc
            exact ⟨rfl, op_append g hd hN ho hx hy ht (slice_or_string hs) hi hz hh.1 hh.2.1 hh.2.2 he hn⟩
          · split at hc
            · rename_i hs
              obtain rfl := Option.some.inj hc
              obtain ⟨k, hk⟩ := int_ty hs
              exact ⟨rfl, op_appz g hd hN ho hx hy ht hk hi hz hh.1 hh.2.1 hh.2.2 he hn⟩
            · cases hc
        · cases hc
      · cases hc
    · cases hc
  · rename_i x y t u h1 h2
    have h1 := arr_of h1
    have h2 := arr_of h2
    subst h1 h2
    split at hc
    · rename_i e ht
      split at hc
      · rename_i n a' b' hs hx hy
        obtain rfl := Option.some.inj hc
        exact ⟨rfl, op_copy g hd hN ho hx hy ht hs he hn⟩
      · cases hc
    · cases hc
  · rename_i h1 h2
    cases hx : cXs P argTypes.toList args.toList with
    | none => rw [hx] at hc; cases hc
    | some ys =>
      rw [hx] at hc
      obtain rfl := Option.some.inj hc
      exact ⟨rfl, op_mn g hd hN ho hx he hn⟩
  · cases hx : cXs P argTypes.toList args.toList with
    | none => rw [hx] at hc; cases hc
    | some ys =>
      rw [hx] at hc
      obtain rfl := Option.some.inj hc
      exact ⟨rfl, op_mx g hd hN ho hx he hn⟩
  · split at hc
    · rename_i hx hxs
      obtain rfl := Option.some.inj hc
      exact ⟨rfl, op_call hC g hd hN ho hx hxs he hn⟩
    · cases hc
  · cases hc

theorem cOp_ok (hC : Good P C) (g : Gam N w0 ok0 st ok ρ a w) {d : Nat} (hd : o.dst = some d) (hN : d < N) {ty : TypeId} {i : IOp} (hc : cOp P d ty o.op = some i)
    (he : evOp C lo st i = some st') (hn : Into N w0 ok0 st' next) : i.dst = some d ∧ o.wp P a w next Q := by
  cases ho : o.op with
  | move x =>
    rw [ho] at hc
    simp only [cOp, Option.map_eq_some_iff] at hc
    obtain ⟨y, hy, rfl⟩ := hc
    simp only [evOp, Option.some.injEq] at he
    subst he
    exact ⟨rfl, op_mv g hd hN (.inl ho) hy hn⟩
  | assign x =>
    rw [ho] at hc
    simp only [cOp, Option.map_eq_some_iff] at hc
    obtain ⟨y, hy, rfl⟩ := hc
    simp only [evOp, Option.some.injEq] at he
    subst he
    exact ⟨rfl, op_mv g hd hN (.inr ho) hy hn⟩
  | pick c x y =>
    rw [ho] at hc
    simp only [cOp] at hc
    split at hc
    · rename_i h1 h2 h3
      obtain rfl := Option.some.inj hc
      exact ⟨rfl, op_pick g hd hN ho h1 h2 h3 he hn⟩
    · cases hc
  | alloc e =>
    rw [ho] at hc
    simp only [cOp] at hc
    split at hc
    · rename_i zs hz
      obtain rfl := Option.some.inj hc
      exact ⟨rfl, op_alloc g hd hN ho hz he hn⟩
    · split at hc
      · rename_i hz
        obtain rfl := Option.some.inj hc
        exact ⟨rfl, op_allocM g hd hN ho hz he hn⟩
      · cases hc
  | box e x =>
    rw [ho] at hc
    simp only [cOp] at hc
    split at hc
    · rename_i h1 h2
      obtain rfl := Option.some.inj hc
      exact ⟨rfl, op_box g hd hN ho h2 he hn⟩
    · cases hc
  | build t parts =>
    rw [ho] at hc
    simp only [cOp] at hc
    split at hc
    · rename_i fs zs hu hz
      split at hc
      · rename_i pl hp
        split at hc
        · rename_i ps hps
          obtain rfl := Option.some.inj hc
          exact ⟨rfl, op_build g hd hN ho hz (.inl ⟨fs, pl, hu, hp, hps⟩) he hn⟩
        · cases hc
      · cases hc
    · rename_i k e zs hu hz
      split at hc
      · rename_i n hs
        split at hc
        · rename_i ps hps
          obtain rfl := Option.some.inj hc
          exact ⟨rfl, op_build g hd hN ho hz (.inr ⟨k, e, n, hu, hs, hps⟩) he hn⟩
        · cases hc
      · cases hc
    · cases hc
  | buildSlice t len parts =>
    rw [ho] at hc
    simp only [cOp] at hc
    split at hc
    · rename_i e hu
      split at hc
      · rename_i n rs zs hs hr hz
        split at hc
        · rename_i hh
          obtain rfl := Option.some.inj hc
          exact ⟨rfl, op_bslice g hd hN ho hr hu hs hz hh.1 hh.2.1 hh.2.2 he hn⟩
        · cases hc
      · cases hc
    · cases hc
  | load t x =>
    rw [ho] at hc
    simp only [cOp] at hc
    split at hc
    · rename_i n y hs hy
      split at hc
      · rename_i hp
        obtain rfl := Option.some.inj hc
        have h := plainTy_ok hp
        exact ⟨rfl, op_load g hd hN ho hy hs h.1 h.2 he hn⟩
      · cases hc
    · cases hc
  | nilCheck x =>
    rw [ho] at hc
    simp only [cOp, Option.map_eq_some_iff] at hc
    obtain ⟨y, hy, rfl⟩ := hc
    exact ⟨rfl, op_nchk g hd hN ho hy he hn⟩
  | binOp op t x y u =>
    rw [ho] at hc
    simp only [cOp] at hc
    split at hc
    · rename_i hy
      exact cNilBin_ok g hd hN ho hy hc he hn
    · exact cBin_ok g hd hN ho hc he hn
  | unOp op t x =>
    rw [ho] at hc
    simp only [cOp, Option.map_eq_some_iff] at hc
    obtain ⟨y, hy, rfl⟩ := hc
    exact ⟨rfl, op_un g hd hN ho hy he hn⟩
  | convert src dst x =>
    rw [ho] at hc
    simp only [cOp] at hc
    split at hc
    · rename_i h1 h2 h3
      obtain rfl := Option.some.inj hc
      exact ⟨rfl, op_conv g hd hN ho h3 h1 h2 he hn⟩
    · rename_i e y h1 h2 h3
      split at hc
      · rename_i h4
        obtain rfl := Option.some.inj hc
        exact ⟨rfl, op_b2s g hd hN ho h3 h1 h4 h2 he hn⟩
      · cases hc
    · cases hc
  | slice t x l h m =>
    rw [ho] at hc
    simp only [cOp] at hc
    split at hc
    · rename_i e hu
      split at hc
      · rename_i n y l' h' m' hs hx hl hh hm
        split at hc
        · cases hc
        · rename_i hne
          obtain rfl := Option.some.inj hc
          refine ⟨rfl, op_slice g hd hN ho hx hl hh hm hu hs (fun h1 h2 => ?_) he hn⟩
          subst h2
          cases m with
          | none => exact h1 rfl
          | some m => exact hne rfl
      · cases hc
    · cases hc
  | fieldAddr t x f =>
    rw [ho] at hc
    simp only [cOp] at hc
    split at hc
    · rename_i fs y hu hx
      split at hc
      · rename_i fd hf
        split at hc
        · rename_i n hs
          obtain rfl := Option.some.inj hc
          exact ⟨rfl, op_faddr g hd hN ho hx hu hf hs he hn⟩
        · cases hc
      · cases hc
    · cases hc
  | field t x f =>
    rw [ho] at hc
    simp only [cOp] at hc
    split at hc
    · rename_i fs y hu hx
      split at hc
      · rename_i fd hf
        split at hc
        · rename_i n hs
          split at hc
          · rename_i hp
            obtain rfl := Option.some.inj hc
            have h := plainTy_ok hp
            exact ⟨rfl, op_fld g hd hN ho hx hu hf hs h.1 h.2 he hn⟩
          · cases hc
        · cases hc
      · cases hc
    · cases hc
  | indexAddr t x j =>
    rw [ho] at hc
    simp only [cOp] at hc
    split at hc
    · rename_i e hu
      split at hc
      · rename_i n y j' hs hx hi
        obtain rfl := Option.some.inj hc
        exact ⟨rfl, op_iaddr g hd hN ho hx hi hu hs he hn⟩
      · cases hc
    · rename_i k e hu
      split at hc
      · rename_i n y j' hs hx hi
        obtain rfl := Option.some.inj hc
        exact ⟨rfl, op_aaddr g hd hN ho hx hi hu hs he hn⟩
      · cases hc
    · cases hc
  | index t x j =>
    rw [ho] at hc
    simp only [cOp] at hc
    split at hc
    · rename_i k e hu
      split at hc
      · rename_i n y j' hs hx hi
        split at hc
        · rename_i hp
          obtain rfl := Option.some.inj hc
          have h := plainTy_ok hp
          exact ⟨rfl, op_ixa g hd hN ho hx hi hu hs h.1 h.2 he hn⟩
        · cases hc
      · cases hc
    · rename_i hu
      split at hc
      · rename_i hx hi
        obtain rfl := Option.some.inj hc
        exact ⟨rfl, op_ixs g hd hN ho hx hi hu he hn⟩
      · cases hc
    · cases hc
  | extract x j =>
    rw [ho] at hc
    simp only [cOp, Option.map_eq_some_iff] at hc
    obtain ⟨y, hy, rfl⟩ := hc
    exact ⟨rfl, op_ext g hd hN ho hy he hn⟩
  | makeFunc fn first caps =>
    rw [ho] at hc
    cases fn with
    | func f =>
      simp only [cOp] at hc
      split at hc
      · rename_i hf
        obtain rfl := Array.isEmpty_iff.1 hf
        simp only [Option.map_eq_some_iff] at hc
        obtain ⟨cs, hcs, rfl⟩ := hc
        simp only [evOp, Option.some.injEq] at he
        subst he
        exact ⟨rfl, op_mkfn g hd hN ho hcs hn⟩
      · cases hc
    | _ => simp only [cOp] at hc; cases hc
  | makeSlice t l c =>
    rw [ho] at hc
    simp only [cOp] at hc
    split at hc
    · rename_i e hu
      split at hc
      · rename_i i z x y hi hz hx hy
        split at hc
        · rename_i hh
          obtain rfl := Option.some.inj hc
          exact ⟨rfl, op_mkslice g hd hN ho hx hy hu hi hz hh.1 hh.2.1 hh.2.2 he hn⟩
        · cases hc
      · cases hc
    · cases hc
  | call c =>
    rw [ho] at hc
    exact cCall_ok hC g hd hN ho hc he hn
  | makeMap t r =>
    rw [ho] at hc
    cases r with
    | none =>
      simp only [cOp] at hc
      split at hc
      · obtain rfl := Option.some.inj hc
        exact ⟨rfl, op_mkmap g hd hN ho he hn⟩
      · cases hc
    | some r => simp only [cOp] at hc; cases hc
  | lookup t x j cok =>
    rw [ho] at hc
    simp only [cOp] at hc
    split at hc
    · rename_i k e ht
      split at hc
      · rename_i ks zs y j' hk hz hx hj
        split at hc
        · rename_i hp
          simp only [Bool.and_eq_true] at hp
          obtain rfl := Option.some.inj hc
          exact ⟨rfl, op_mget g hd hN ho hx hj ht hk hz hp.1 hp.2 he hn⟩
        · cases hc
      · cases hc
    · cases hc
  | _ => rw [ho] at hc; simp only [cOp] at hc; cases hc

theorem opd_ok (hC : Good P C) (g : Gam N w0 ok0 st ok ρ a w) {n : Nat} (hnN : n ≤ N) {i : IOp} (hc : cOpd P n o = some i)
    (he : evOp C lo st i = some st') (hn : Into N w0 ok0 st' next) : o.wp P a w next Q := by
  unfold cOpd at hc
  split at hc
  · rename_i d hd
    split at hc
    · rename_i hlt
      exact (cOp_ok hC g hd (Nat.lt_of_lt_of_le hlt hnN) hc he hn).2
    · cases hc
  · rename_i hd
    split at hc
    · rename_i t x y ho
      split at hc
      · rename_i m p v hs hp hv
        obtain rfl := Option.some.inj hc
        exact op_store g hd ho hp hv hs he hn
      · cases hc
    · rename_i t x y z ho
      split at hc
      · rename_i k e ht
        split at hc
        · rename_i ks n x' y' z' hk hs hx hy hz
          split at hc
          · rename_i hp
            obtain rfl := Option.some.inj hc
            exact op_mupd g hd ho hx hy hz ht hk hp he hn
          · cases hc
        · cases hc
      · cases hc
    · rename_i c ho
      obtain ⟨callee, args, argTypes⟩ := c
      unfold cDel at hc
      simp only at hc
      split at hc
      · rename_i x y t u h1 h2
        have h1 := arr_of h1
        have h2 := arr_of h2
        subst h1 h2
        split at hc
        · rename_i k e ht
          split at hc
          · rename_i ks a' b' hk hx hy
            obtain rfl := Option.some.inj hc
            exact op_mdel g hd ho hx hy ht hk he hn
          · cases hc
        · cases hc
      · cases hc
    · cases hc
end

/-! ### where an operation's value goes -/
theorem cBin_dst {P : Program} {d : Nat} {op : BinOp} {t u : TypeId} {x y : Operand} {i : IOp} (hc : cBin P d op t x y u = some i) : i.dst = some d := by
  unfold cBin at hc
  repeat' split at hc
  all_goals first | (cases hc; done) | (obtain rfl := Option.some.inj hc; rfl)
theorem cNilBin_dst {P : Program} {d : Nat} {op : BinOp} {t : TypeId} {x : Operand} {ptr : Bool} {i : IOp} (hc : cNilBin P d op t ptr x = some i) : i.dst = some d := by
  unfold cNilBin at hc
  repeat' split at hc
  all_goals first | (cases hc; done) | (obtain rfl := Option.some.inj hc; rfl)
theorem cCall_dst {P : Program} {d : Nat} {ty : TypeId} {c : Call} {i : IOp} (hc : cCall P d ty c = some i) : i.dst = some d := by
  unfold cCall at hc
  repeat' split at hc
  all_goals first | (cases hc; done) | (obtain rfl := Option.some.inj hc; rfl) | (simp only [Option.map_eq_some_iff] at hc; obtain ⟨y, hy, rfl⟩ := hc; rfl)
theorem cOp_dst {P : Program} {d : Nat} {ty : TypeId} {op : Op} {i : IOp} (hc : cOp P d ty op = some i) : i.dst = some d := by
  unfold cOp at hc
  split at hc
  case h_10 =>
    split at hc
    · exact cNilBin_dst hc
    · exact cBin_dst hc
  case h_21 => exact cCall_dst hc
  all_goals
    repeat' split at hc
    all_goals first | (cases hc; done) | (obtain rfl := Option.some.inj hc; rfl) | (simp only [Option.map_eq_some_iff] at hc; obtain ⟨y, hy, rfl⟩ := hc; rfl)
theorem cOpd_dst {P : Program} {n : Nat} {o : Oper} {i : IOp} (hc : cOpd P n o = some i) : i.dst = o.dst := by
  unfold cOpd at hc
  split at hc
  · rename_i d hd
    rw [hd]
    split at hc
    · exact cOp_dst hc
    · cases hc
  · rename_i hd
    rw [hd]
    unfold cDel at hc
    repeat' split at hc
    all_goals first | (cases hc; done) | (obtain rfl := Option.some.inj hc; rfl)
theorem cOpd_lt {P : Program} {n : Nat} {o : Oper} {i : IOp} {d : Nat} (hc : cOpd P n o = some i) (hd : o.dst = some d) : d < n := by
  unfold cOpd at hc
  rw [hd] at hc
  simp only at hc
  split at hc
  · assumption
  · cases hc
end Go.Proofs.Ytehcfmohjcjmpaa.Sx
