/- The evaluator's single operations are sound, the third lot: elements, cuts, lengths. -/
import Derived.Test.YtehcfmohjcjmpaaSxOps2
namespace Go.Proofs.Ytehcfmohjcjmpaa.Sx
open Go Go.RowKit
section
variable {P : Program} {N : Nat} {w0 : World} {ok0 : Nat → Prop} {st st' : St} {ok : Nat → Prop} {ρ : Rho} {a : Act} {w w' : World}
  {next : Act → World → Prop} {Q : Exit → Act → World → Prop} {o : Oper}

theorem sl_form {fl : Fl} {sz : Nat} {rows : List (List TV)} {x : Value} (h : LRep w ok ρ st.hp (.v (.sl fl sz rows)) x) :
    ∃ ad cap, x = .slice ad rows.length cap ∧ rows.length ≤ cap ∧ cap ≤ maxLen ∧ (∀ e, fl = .tight e → cap = rows.length) ∧ (rows = [] ∨ ∃ b o', ad = some ⟨b, o', none⟩ ∧ ok b ∧ RowsRep w ok sz b rows o') := by
  simp only [LRep, TRep] at h
  obtain ⟨ad, len, cap, h1, h2, h3, h4, h5, h6⟩ := h
  subst h2
  exact ⟨ad, cap, h1, h3, h4, h5, h6⟩

theorem op_iaddr (g : Gam N w0 ok0 st ok ρ a w) {d : Nat} (hd : o.dst = some d) (hN : d < N) {t e t1 t2 : TypeId} {x i : Operand} {x' i' : X} {sz : Nat} (ho : o.op = .indexAddr t x i) (hx : cX P t1 x = some x') (hi : cX P t2 i = some i')
    (hu : P.underlying t = some (.slice e)) (hs : size? P e = some sz)
    (he : setM st d (iaddrL st.hp sz (x'.rd st.env) (i'.rd st.env)) = some st') (hn : Into N w0 ok0 st' next) : o.wp P a w next Q := by
  obtain ⟨l, hl, rfl⟩ := setM_some he
  have h1 := rd_ok g hx
  have h2 := rd_ok g hi
  generalize x'.rd st.env = l1 at hl h1
  generalize i'.rd st.env = l2 at hl h2
  unfold iaddrL at hl
  split at hl
  · rename_i fl sz' rows k n
    split at hl
    · rename_i hc
      obtain ⟨rfl, h0⟩ := hc
      obtain ⟨ad, cap, e1, _, _, _, h6⟩ := sl_form h1
      have e2 := lv_int h2
      cases hr : rows[n.toNat]? with
      | none => rw [hr] at hl; cases hl
      | some r =>
        rw [hr] at hl
        obtain rfl := Option.some.inj hl
        rcases h6 with rfl | ⟨b, o', rfl, hb, hrows⟩
        · simp at hr
        · obtain ⟨_, hcells⟩ := hrows.get _ _ hr
          have hlt : n < rows.length := by have := (List.getElem?_eq_some_iff.1 hr).1; omega
          refine ok_val g hd hN (v := .pointer (some ⟨b, o' + n.toNat * sz', none⟩)) ?_ ?_ hn
          · simp [execOp, ho, e1, e2, run_indexAt w hu hs b o' rows.length cap k n h0 hlt]
          · simp only [LRep, TRep]
            exact ⟨b, _, rfl, hb, hcells⟩
    · cases hl
  · rename_i id off len k n
    have e2 := lv_int h2
    simp only [LRep] at h1
    unfold iaddrS at hl
    split at hl
    · rename_i fz e' sz' rows hid
      split at hl
      · rename_i hc
        obtain ⟨rfl, h0, hlt⟩ := hc
        obtain rfl := Option.some.inj hl
        rw [hid] at h1
        simp only [SRep] at h1
        obtain ⟨ad, cap, e1, h3, h4, h5, h6⟩ := h1
        rcases h6 with ⟨_, h6, _⟩ | ⟨b, K, h7, h8, h9⟩
        · exfalso; omega
        · rcases h9 with rfl | ⟨h9, _⟩
          · refine ok_val g hd hN (v := .pointer (some ⟨b, off * sz' + n.toNat * sz', none⟩)) ?_ ?_ hn
            · simp [execOp, ho, e1, e2, run_indexAt w hu hs b (off * sz') len cap k n h0 hlt]
            · simp only [LRep, hid, ERep]
              exact ⟨b, K, h7, by rw [Nat.add_mul, Nat.add_zero]⟩
          · exfalso; omega
      · cases hl
    · cases hl
  · cases hl

theorem faddr_rep {off : Nat} {l r : LV} {x : Value} (h : faddrL off l = some r) (hx : LRep w ok ρ st.hp l x) : ∃ b, x = .pointer (some b) ∧ LRep w ok ρ st.hp r (.pointer (some (b.add off))) := by
  unfold faddrL at h
  split at h
  · rename_i id o'
    obtain rfl := Option.some.inj h
    obtain ⟨b, hb⟩ := lv_p hx
    refine ⟨b, hb, ?_⟩
    simp only [LRep] at hx ⊢
    rw [hb] at hx
    unfold PRep at hx ⊢
    split at hx
    · obtain ⟨b', K, h1, h2⟩ := hx
      obtain rfl : b = ⟨b', o', none⟩ := by simpa using h2
      exact ⟨b', K, h1, by rw [addr_add]⟩
    · exact ⟨_, rfl⟩
    · exact hx.elim
  · rename_i id r o'
    obtain rfl := Option.some.inj h
    obtain ⟨b, hb⟩ := lv_pe hx
    refine ⟨b, hb, ?_⟩
    simp only [LRep] at hx ⊢
    rw [hb] at hx
    unfold ERep at hx ⊢
    split at hx
    · obtain ⟨b', K, h1, h2⟩ := hx
      obtain rfl : b = ⟨b', r * _ + o', none⟩ := by simpa using h2
      exact ⟨b', K, h1, by rw [addr_add, Nat.add_assoc]⟩
    · exact ⟨_, rfl⟩
    · exact hx.elim
  · rename_i cs
    obtain rfl := Option.some.inj h
    simp only [LRep, TRep] at hx
    obtain ⟨b, o', hb, h2, h3⟩ := hx
    refine ⟨_, hb, ?_⟩
    simp only [LRep, TRep, addr_add]
    exact ⟨b, _, rfl, h2, h3.drop _⟩
  · cases h
theorem op_aaddr (g : Gam N w0 ok0 st ok ρ a w) {d : Nat} (hd : o.dst = some d) (hN : d < N) {t e t1 t2 : TypeId} {x i : Operand} {x' i' : X} {len sz : Nat} (ho : o.op = .indexAddr t x i) (hx : cX P t1 x = some x') (hi : cX P t2 i = some i')
    (hu : P.underlying t = some (.array len e)) (hs : size? P e = some sz)
    (he : setM st d (aaddrL len sz (x'.rd st.env) (i'.rd st.env)) = some st') (hn : Into N w0 ok0 st' next) : o.wp P a w next Q := by
  obtain ⟨l, hl, rfl⟩ := setM_some he
  have h1 := rd_ok g hx
  have h2 := rd_ok g hi
  generalize x'.rd st.env = l1 at hl h1
  generalize i'.rd st.env = l2 at hl h2
  unfold aaddrL at hl
  split at hl
  · rename_i k n
    split at hl
    · rename_i hh
      obtain ⟨b, e1, e2⟩ := faddr_rep hl h1
      have e3 := lv_int h2
      refine ok_val g hd hN (v := .pointer (some (b.add (n.toNat * sz)))) ?_ e2 hn
      simp [execOp, ho, e1, e3, Instr.indexAt, asIntOf, run_underlying hu, Instr.sureAddr, hh.1, hh.2, run_sizeOf w hs]
    · cases hl
  · cases hl
theorem op_ixa (g : Gam N w0 ok0 st ok ρ a w) {d : Nat} (hd : o.dst = some d) (hN : d < N) {t e t1 t2 : TypeId} {x i : Operand} {x' i' : X} {len sz : Nat} (ho : o.op = .index t x i) (hx : cX P t1 x = some x') (hi : cX P t2 i = some i')
    (hu : P.underlying t = some (.array len e)) (hs : size? P e = some sz) (hk : ∃ k, P.underlying e = some k) (h1 : isAggB P e = false → sz = 1)
    (he : setM st d (ixaL len sz (isAggB P e) (x'.rd st.env) (i'.rd st.env)) = some st') (hn : Into N w0 ok0 st' next) : o.wp P a w next Q := by
  obtain ⟨l, hl, rfl⟩ := setM_some he
  have hr := rd_ok g hx
  have h2 := rd_ok g hi
  generalize x'.rd st.env = l1 at hl hr
  generalize i'.rd st.env = l2 at hl h2
  unfold ixaL at hl
  split at hl
  · rename_i cs k n
    split at hl
    · rename_i hc
      obtain ⟨h0, hlt⟩ := hc
      obtain ⟨vs, e1, h3⟩ := agg_form hr
      obtain ⟨hle, h4⟩ := cut_ok hl h3
      have e2 := lv_int h2
      obtain ⟨kk, hk⟩ := hk
      refine ok_val g hd hN (v := _) ?_ h4 hn
      have := run_part (P := P) w hk hs vs (n.toNat * sz) (by simpa using hle) h1
      simp [execOp, ho, e1, e2, Instr.index, asIntOf, run_underlying hu, h0, hlt, run_sizeOf w hs, this]
    · cases hl
  · cases hl

theorem op_ixs (g : Gam N w0 ok0 st ok ρ a w) {d : Nat} (hd : o.dst = some d) (hN : d < N) {t t1 t2 : TypeId} {x i : Operand} {x' i' : X} (ho : o.op = .index t x i) (hx : cX P t1 x = some x') (hi : cX P t2 i = some i')
    (hu : P.underlying t = some .string)
    (he : setM st d (ixsL (x'.rd st.env) (i'.rd st.env)) = some st') (hn : Into N w0 ok0 st' next) : o.wp P a w next Q := by
  obtain ⟨l, hl, rfl⟩ := setM_some he
  have hr := rd_ok g hx
  have h2 := rd_ok g hi
  generalize x'.rd st.env = l1 at hl hr
  generalize i'.rd st.env = l2 at hl h2
  unfold ixsL at hl
  split at hl
  · rename_i z k n
    split at hl
    · rename_i h0
      have e1 := lv_str hr
      have e2 := lv_int h2
      cases hb : z.data.toList[n.toNat]? with
      | none => rw [hb] at hl; cases hl
      | some b =>
        rw [hb] at hl
        obtain rfl := Option.some.inj hl
        refine ok_val g hd hN (v := .int .u8 b.toNat) ?_ (lrep_v trep_int) hn
        have hb' : z[n.toNat]? = some b := by
          have h3 := (List.getElem?_eq_some_iff.1 hb)
          obtain ⟨h4, h5⟩ := h3
          rw [getElem?_pos z n.toNat (by simpa using h4)]
          congr 1
        simp [execOp, ho, e1, e2, Instr.index, asIntOf, run_underlying hu, h0, hb']
    · cases hl
  · cases hl

theorem op_len (g : Gam N w0 ok0 st ok ρ a w) {d : Nat} (hd : o.dst = some d) (hN : d < N) {t t1 : TypeId} {x : Operand} {x' : X} (ho : o.op = .call { callee := .builtin .len, args := #[x], argTypes := #[t] }) (hx : cX P t1 x = some x')
    {z : Bool} (hcomp : z = true → P.underlying t = some .string) (hcomp' : z = false → ∃ e, P.underlying t = some (.slice e))
    (he : setV st d (lenV z (x'.rd st.env)) = some st') (hn : Into N w0 ok0 st' next) : o.wp P a w next Q := by
  obtain ⟨l, hl, rfl⟩ := setV_some he
  have hr := rd_ok g hx
  generalize x'.rd st.env = l1 at hl hr
  unfold lenV at hl
  split at hl
  · obtain rfl := Option.some.inj hl
    obtain ⟨ad, cap, e1, _⟩ := sl_form hr
    obtain ⟨e, hu⟩ := hcomp' rfl
    refine ok_val g hd hN (v := .int .i64 _) ?_ (lrep_v trep_int) hn
    simp [execOp, ho, resolve, invoke, builtin, e1, Builtin.len_, run_underlying hu, goInt]
  · obtain rfl := Option.some.inj hl
    have e1 := lv_str hr
    refine ok_val g hd hN (v := .int .i64 _) ?_ (lrep_v trep_int) hn
    simp [execOp, ho, resolve, invoke, builtin, e1, Builtin.len_, run_underlying (hcomp rfl), goInt]
  · obtain rfl := Option.some.inj hl
    simp only [LRep] at hr
    obtain ⟨ad, cap, e1, _⟩ := hr.shape
    obtain ⟨e, hu⟩ := hcomp' rfl
    refine ok_val g hd hN (v := .int .i64 _) ?_ (lrep_v trep_int) hn
    simp [execOp, ho, resolve, invoke, builtin, e1, Builtin.len_, run_underlying hu, goInt]
  · cases hl

theorem op_cap (g : Gam N w0 ok0 st ok ρ a w) {d : Nat} (hd : o.dst = some d) (hN : d < N) {t e t1 : TypeId} {x : Operand} {x' : X} (ho : o.op = .call { callee := .builtin .cap, args := #[x], argTypes := #[t] }) (hx : cX P t1 x = some x')
    (hu : P.underlying t = some (.slice e))
    (he : setV st d (capV (x'.rd st.env)) = some st') (hn : Into N w0 ok0 st' next) : o.wp P a w next Q := by
  obtain ⟨l, hl, rfl⟩ := setV_some he
  have hr := rd_ok g hx
  generalize x'.rd st.env = l1 at hl hr
  unfold capV at hl
  split at hl
  · rename_i te sz rows
    obtain rfl := Option.some.inj hl
    obtain ⟨ad, cap, e1, _, _, h5, _⟩ := sl_form hr
    obtain rfl := h5 _ rfl
    refine ok_val g hd hN (v := .int .i64 _) ?_ (lrep_v trep_int) hn
    simp [execOp, ho, resolve, invoke, builtin, e1, Builtin.cap_, run_underlying hu, goInt]
  · cases hl

theorem op_ext (g : Gam N w0 ok0 st ok ρ a w) {d : Nat} (hd : o.dst = some d) (hN : d < N) {t1 : TypeId} {x : Operand} {x' : X} {i : Nat} (ho : o.op = .extract x i) (hx : cX P t1 x = some x')
    (he : setM st d (extL i (x'.rd st.env)) = some st') (hn : Into N w0 ok0 st' next) : o.wp P a w next Q := by
  obtain ⟨l, hl, rfl⟩ := setM_some he
  have hr := rd_ok g hx
  generalize x'.rd st.env = l1 at hl hr
  unfold extL at hl
  split at hl
  · simp only [LRep] at hr
    obtain ⟨vs, e1, h2⟩ := hr
    obtain ⟨v, h3, _, h4⟩ := h2.get i l hl
    refine ok_val g hd hN (v := v) ?_ h4 hn
    have h3' : vs[i]? = some v := by simpa using h3
    simp [execOp, ho, e1, Instr.extract, h3']
  · cases hl

theorem op_mkfn (g : Gam N w0 ok0 st ok ρ a w) {d : Nat} (hd : o.dst = some d) (hN : d < N) {f : FuncId} {ts : List TypeId} {caps : Array Operand} {cs : List X} (ho : o.op = .makeFunc (.func f) #[] caps) (hx : cXs P ts caps.toList = some cs)
    (hn : Into N w0 ok0 (st.set d (.fn f (rds st.env cs))) next) : o.wp P a w next Q := by
  have hr := rds_ok g hx
  refine ok_val g hd hN (v := .func (.func f) #[] (caps.map a.eval)) ?_ ?_ hn
  · simp [execOp, ho, Instr.makeFunc]
  · simp only [LRep]
    exact ⟨_, rfl, by simpa using hr⟩

/-! ### cuts -/
theorem bndX_ok (g : Gam N w0 ok0 st ok ρ a w) {t : TypeId} {x : Operand} {x' : X} (hx : cX P t x = some x') {m r : Nat} (h : bndL m (x'.rd st.env) = some r) :
    r ≤ m ∧ ∃ k n, a.eval x = .int k n ∧ 0 ≤ n ∧ n ≤ (m : Int) ∧ n.toNat = r := by
  have hr := rd_ok g hx
  generalize x'.rd st.env = l at h hr
  unfold bndL at h
  split at h
  · split at h
    · rename_i k n hc
      obtain rfl := Option.some.inj h
      exact ⟨by omega, k, n, lv_int hr, hc.1, hc.2, rfl⟩
    · cases h
  · cases h
theorem run_bound {k : IntKind} {n : Int} {y : Nat} (h0 : 0 ≤ n) (h1 : n ≤ (y : Int)) (c : BoundsCode) : (Instr.sliceBound (.int k n) y c).run P w = .ok n.toNat w := by
  simp [Instr.sliceBound, asIntOf, h0, h1]

theorem bnd_cases (g : Gam N w0 ok0 st ok ρ a w) {t : TypeId} {x : Option Operand} {x' : Option X} (hx : cOX P t x = some x') {dflt m r : Nat} (h : bndX st.env dflt x' (some m) = some r) :
    (x = none ∧ r = dflt) ∨ ∃ y k n, x = some y ∧ a.eval y = .int k n ∧ 0 ≤ n ∧ n ≤ (m : Int) ∧ n.toNat = r := by
  cases x with
  | none =>
    simp only [cOX, Option.some.injEq] at hx
    subst hx
    simp only [bndX, Option.some.injEq] at h
    exact .inl ⟨rfl, h.symm⟩
  | some y =>
    simp only [cOX] at hx
    cases hy : cX P t y with
    | none => rw [hy] at hx; cases hx
    | some y' =>
      rw [hy] at hx
      obtain rfl := Option.some.inj hx
      obtain ⟨_, k, n, e1, h2, h3, h4⟩ := bndX_ok g hy h
      exact .inr ⟨y, k, n, rfl, e1, h2, h3, h4⟩

/-- the bounds of a cut without a third one -/
theorem bounds2 (g : Gam N w0 ok0 st ok ρ a w) {t : TypeId} {lo hi : Option Operand} {lo' hi' : Option X} (hlo : cOX P t lo = some lo') (hhi : cOX P t hi = some hi') {len h l : Nat}
    (eh : bndX st.env len hi' (some len) = some h) (el : bndX st.env 0 lo' (some h) = some l) (isS : Bool) (cap : Nat) (hcap : len ≤ cap) :
    l ≤ h ∧ h ≤ len ∧ (Instr.sliceBounds isS len cap (lo.map a.eval) (hi.map a.eval) none).run P w = .ok (l, h, cap) w := by
  rcases bnd_cases g hhi eh with ⟨rfl, rfl⟩ | ⟨y, k, n, rfl, e1, h1, h2, rfl⟩ <;> rcases bnd_cases g hlo el with ⟨rfl, rfl⟩ | ⟨z, k', n', rfl, e2, h1', h2', rfl⟩
  · exact ⟨Nat.zero_le _, Nat.le_refl _, by simp [Instr.sliceBounds]⟩
  · refine ⟨by omega, Nat.le_refl _, ?_⟩
    simp [Instr.sliceBounds, e2, run_bound h1' h2']
  · refine ⟨Nat.zero_le _, by omega, ?_⟩
    have h3 : n ≤ (cap : Int) := by omega
    simp [Instr.sliceBounds, e1, run_bound h1 h3]
  · refine ⟨by omega, by omega, ?_⟩
    have h3 : n ≤ (cap : Int) := by omega
    simp [Instr.sliceBounds, e1, e2, run_bound h1 h3, run_bound h1' h2']

/-- the bounds of a cut with a third one -/
theorem bounds3 (g : Gam N w0 ok0 st ok ρ a w) {t : TypeId} {lo hi : Option Operand} {mx : Operand} {lo' hi' : Option X} {mx' : X} (hlo : cOX P t lo = some lo') (hhi : cOX P t hi = some hi') (hmx : cX P t mx = some mx') {len m h l : Nat}
    (em : bndL len (mx'.rd st.env) = some m) (eh : bndX st.env 0 hi' (some m) = some h) (el : bndX st.env 0 lo' (some h) = some l) (hne : hi ≠ none) (isS : Bool) (cap : Nat) (hcap : len ≤ cap) :
    l ≤ h ∧ h ≤ m ∧ m ≤ len ∧ (Instr.sliceBounds isS len cap (lo.map a.eval) (hi.map a.eval) (some (a.eval mx))).run P w = .ok (l, h, m) w := by
  obtain ⟨hm, k0, n0, e0, h10, h20, rfl⟩ := bndX_ok g hmx em
  have h3 : n0 ≤ (cap : Int) := by omega
  rcases bnd_cases g hhi eh with ⟨rfl, rfl⟩ | ⟨y, k, n, rfl, e1, h1, h2, rfl⟩
  · exact absurd rfl hne
  · rcases bnd_cases g hlo el with ⟨rfl, rfl⟩ | ⟨z, k', n', rfl, e2, h1', h2', rfl⟩
    · refine ⟨Nat.zero_le _, by omega, hm, ?_⟩
      simp [Instr.sliceBounds, e0, e1, run_bound h10 h3, run_bound h1 h2]
    · refine ⟨by omega, by omega, hm, ?_⟩
      simp [Instr.sliceBounds, e0, e1, e2, run_bound h10 h3, run_bound h1 h2, run_bound h1' h2']

/-- a row's part, as a slice of the model -/
theorem cut_rep {fl' : Fl} {sz : Nat} {rows : List (List TV)} {ad : Option Addr} {cap l h m : Nat} (h6 : rows = [] ∨ ∃ b o', ad = some ⟨b, o', none⟩ ∧ ok b ∧ RowsRep w ok sz b rows o') (hl : l ≤ h) (hh : h ≤ rows.length) (hm : h ≤ m) (hmc : m ≤ cap) (hcap : cap ≤ maxLen)
    (ht : ∀ e, fl' = .tight e → m = h) : TRep w ok (.sl fl' sz ((rows.drop l).take (h - l))) (.slice (if m = l then ad else ad.map (·.add (l * sz))) (h - l) (m - l)) := by
  simp only [TRep]
  refine ⟨_, _, _, rfl, by simp; omega, by omega, by omega, fun e he => by have := ht e he; omega, ?_⟩
  rcases h6 with rfl | ⟨b, o', rfl, hb, hr⟩
  · exact .inl (by simp)
  · by_cases hml : m = l
    · have : h = l := by omega
      subst this
      exact .inl (by simp)
    · rw [if_neg hml]
      exact .inr ⟨b, o' + l * sz, by simp [addr_add], hb, (hr.drop l).take (h - l)⟩

theorem op_slice (g : Gam N w0 ok0 st ok ρ a w) {d : Nat} (hd : o.dst = some d) (hN : d < N) {t e : TypeId} {x : Operand} {x' : X} {lo hi mx : Option Operand} {lo' hi' mx' : Option X} {sz : Nat} (ho : o.op = .slice t x lo hi mx)
    (hx : cX P t x = some x') (hlo : cOX P t lo = some lo') (hhi : cOX P t hi = some hi') (hmx : cOX P t mx = some mx') (hu : P.underlying t = some (.slice e)) (hs : size? P e = some sz) (hne : mx ≠ none → hi ≠ none)
    (he : setM st d (sliceL st.hp e sz st.env lo' hi' mx' (x'.rd st.env)) = some st') (hn : Into N w0 ok0 st' next) : o.wp P a w next Q := by
  obtain ⟨r, hr, rfl⟩ := setM_some he
  have h1 := rd_ok g hx
  generalize hl1 : x'.rd st.env = l1 at hr h1
  unfold sliceL at hr
  split at hr
  · rename_i fl sz' rows
    split at hr
    · rename_i hsz
      subst hsz
      obtain rfl : mx = none := by
        cases mx with
        | none => rfl
        | some m => simp only [cOX] at hmx; cases hm : cX P t m <;> rw [hm] at hmx <;> cases hmx
      obtain ⟨ad, cap, e1, h3, h4, h5, h6⟩ := sl_form h1
      simp only [cutV2] at hr
      generalize eh : bndX st.env rows.length hi' (some rows.length) = h at hr
      generalize el : bndX st.env 0 lo' h = l at hr
      unfold cutV at hr
      split at hr
      · rename_i h' l'
        obtain rfl := Option.some.inj hr
        obtain ⟨b1, b2, b3⟩ := bounds2 (P := P) g hlo hhi eh el true cap h3
        refine ok_val g hd hN (v := .slice (if cap = l' then ad else ad.map (·.add (l' * sz'))) (h' - l') (cap - l')) ?_ (lrep_v (cut_rep (m := cap) h6 b1 b2 (by omega) (Nat.le_refl _) h4 ?_)) hn
        · simp [execOp, ho, e1, Instr.sliceAt, Instr.slice, run_underlying hu, b3, run_sizeOf w hs]
        · intro e' he'
          unfold flOf at he'
          split at he'
          · split at he'
            · rename_i hdec
              have := of_decide_eq_true hdec
              have := h5 _ rfl
              omega
            · cases he'
          · cases he'
      · cases hr
    · cases hr
  · rename_i mm fl sz' rows
    split at hr
    · rename_i hsz
      subst hsz
      obtain ⟨m, rfl, hm⟩ : ∃ m, mx = some m ∧ cX P t m = some mm := by
        cases mx with
        | none => cases hmx
        | some m =>
          simp only [cOX] at hmx
          cases hm : cX P t m with
          | none => rw [hm] at hmx; cases hmx
          | some m' => rw [hm] at hmx; simp only [Option.map_some, Option.some.injEq] at hmx; exact ⟨m, rfl, hmx ▸ hm⟩
      obtain ⟨ad, cap, e1, h3, h4, h5, h6⟩ := sl_form h1
      simp only [cutV3] at hr
      generalize em : bndX st.env 0 (some mm) (some rows.length) = m' at hr
      generalize eh : bndX st.env 0 hi' m' = h at hr
      generalize el : bndX st.env 0 lo' h = l at hr
      unfold cutM at hr
      split at hr
      · rename_i mv hv lv
        obtain rfl := Option.some.inj hr
        obtain ⟨b1, b2, b3, b4⟩ := bounds3 (P := P) g hlo hhi hm em eh el (hne (by simp)) true cap h3
        refine ok_val g hd hN (v := .slice (if mv = lv then ad else ad.map (·.add (lv * sz'))) (hv - lv) (mv - lv)) ?_ (lrep_v (cut_rep (m := mv) h6 b1 (by omega) b2 (by omega) h4 ?_)) hn
        · simp [execOp, ho, e1, Instr.sliceAt, Instr.slice, run_underlying hu, b4, run_sizeOf w hs]
        · intro e' he'
          split at he'
          · omega
          · cases he'
      · cases hr
    · cases hr
  · rename_i id off len
    obtain rfl : mx = none := by
      cases mx with
      | none => rfl
      | some m => simp only [cOX] at hmx; cases hm : cX P t m <;> rw [hm] at hmx <;> cases hmx
    unfold cutO at hr
    split at hr
    · rename_i fz e' sz' rows hid
      split at hr
      · rename_i hsz
        subst hsz
        simp only [LRep, hid, SRep] at h1
        obtain ⟨ad, cap, e1, h3, h4, h5, h6⟩ := h1
        generalize eh : bndX st.env len hi' (some len) = h at hr
        generalize el : bndX st.env 0 lo' h = l at hr
        unfold cutS at hr
        split at hr
        · rename_i h' l'
          obtain rfl := Option.some.inj hr
          obtain ⟨b1, b2, b3⟩ := bounds2 (P := P) g hlo hhi eh el true cap h4
          refine ok_val g hd hN (v := .slice (if cap = l' then ad else ad.map (·.add (l' * sz'))) (h' - l') (cap - l')) ?_ ?_ hn
          · simp [execOp, ho, e1, Instr.sliceAt, Instr.slice, run_underlying hu, b3, run_sizeOf w hs]
          · simp only [LRep, hid, SRep]
            refine ⟨_, _, rfl, by omega, by omega, by omega, ?_⟩
            rcases h6 with ⟨r1, r2, r3⟩ | ⟨b, K, r1, r2, r3⟩
            · exact .inl ⟨r1, by omega, by omega⟩
            · refine .inr ⟨b, K, r1, by omega, ?_⟩
              by_cases hc : cap = l'
              · by_cases hz : l' = 0
                · subst hz
                  rw [if_pos hc]
                  rcases r3 with r3 | ⟨r3, r4⟩
                  · exact .inl (by simpa using r3)
                  · exact .inr ⟨by omega, by omega⟩
                · exact .inr ⟨by omega, by omega⟩
              · rw [if_neg hc]
                rcases r3 with rfl | ⟨r3, r4⟩
                · exact .inl (by simp [addr_add, Nat.add_mul])
                · exfalso; omega
        · cases hr
      · cases hr
    · cases hr
  · cases hr
end
end Go.Proofs.Ytehcfmohjcjmpaa.Sx
