/- The evaluator's single operations are sound, the second lot: numbers, addresses, slices' bounds. -/
import Derived.Test.YtehcfmohjcjmpaaSxOps
import Derived.Laws.Concat
namespace Go.Proofs.Ytehcfmohjcjmpaa.Sx
open Go Go.RowKit
section
variable {P : Program} {N : Nat} {w0 : World} {ok0 : Nat → Prop} {st st' : St} {ok : Nat → Prop} {ρ : Rho} {a : Act} {w w' : World}
  {next : Act → World → Prop} {Q : Exit → Act → World → Prop} {o : Oper}

theorem lv_p {id off : Nat} {x : Value} (h : LRep w ok ρ st.hp (.p id off) x) : ∃ b, x = .pointer (some b) := by simp only [LRep] at h; exact h.shape
theorem lv_pe {id r off : Nat} {x : Value} (h : LRep w ok ρ st.hp (.pe id r off) x) : ∃ b, x = .pointer (some b) := by simp only [LRep] at h; exact h.shape

theorem op_nchk (g : Gam N w0 ok0 st ok ρ a w) {d : Nat} (hd : o.dst = some d) (hN : d < N) {t : TypeId} {x : Operand} {y : X} (ho : o.op = .nilCheck x) (hy : cX P t x = some y)
    (he : setM st d (nchkL (y.rd st.env)) = some st') (hn : Into N w0 ok0 st' next) : o.wp P a w next Q := by
  obtain ⟨l, hl, rfl⟩ := setM_some he
  have h := rd_ok g hy
  generalize y.rd st.env = l1 at hl h
  unfold nchkL at hl
  split at hl
  · obtain rfl := Option.some.inj hl
    obtain ⟨b, hb⟩ := lv_p h
    refine ok_val g hd hN (v := a.eval x) ?_ h hn
    simp [execOp, ho, hb]
  · obtain rfl := Option.some.inj hl
    obtain ⟨b, hb⟩ := lv_pe h
    refine ok_val g hd hN (v := a.eval x) ?_ h hn
    simp [execOp, ho, hb]
  · obtain rfl := Option.some.inj hl
    obtain ⟨b, o', hb, _⟩ : ∃ b o', a.eval x = .pointer (some ⟨b, o', none⟩) ∧ True := by
      simp only [LRep, TRep] at h
      obtain ⟨b, o', hb, _⟩ := h
      exact ⟨b, o', hb, trivial⟩
    refine ok_val g hd hN (v := a.eval x) ?_ h hn
    simp [execOp, ho, hb]
  · obtain rfl := Option.some.inj hl
    obtain ⟨vs, hb⟩ : ∃ vs, a.eval x = .func (.func _) #[] vs := by
      simp only [LRep] at h
      obtain ⟨vs, hb, _⟩ := h
      exact ⟨vs, hb⟩
    refine ok_val g hd hN (v := a.eval x) ?_ h hn
    simp [execOp, ho, hb]
  · obtain rfl := Option.some.inj hl
    obtain ⟨vs, hb⟩ : ∃ vs, a.eval x = .func (.func _) #[] vs := by
      simp only [LRep, TRep] at h
      obtain ⟨vs, hb, _⟩ := h
      exact ⟨vs, hb⟩
    refine ok_val g hd hN (v := a.eval x) ?_ h hn
    simp [execOp, ho, hb]
  · cases hl

/-! ### numbers -/
theorem int_beq (x y : Int) : (x == y) = decide (x = y) := by by_cases h : x = y <;> simp [h]
theorem int_bne (x y : Int) : (x != y) = !decide (x = y) := by by_cases h : x = y <;> simp [h]
theorem run_binI {k : IntKind} {x y : Int} {op : BinOp} {r : TV} (h : binI k x y op = some r) (hs : shiftOp op = false) (t : TypeId) :
    ∃ v, (binOp op t (.int k x) (.int k y)).run P w = .ok v w ∧ TRep w ok r v := by
  cases op <;> simp only [binI, shiftOp, andB, orB, xorB, andNotB] at h hs <;> try (cases hs)
  all_goals first
    | (obtain rfl := Option.some.inj h
       refine ⟨_, ?_, by simp only [TRep]; rfl⟩
       simp [binOp, Op.intArith, Op.intBits, Op.intCmp, int_beq, int_bne]
       done)
    | (split at h
       · cases h
       · rename_i hne
         obtain rfl := Option.some.inj h
         refine ⟨_, ?_, by simp only [TRep]; rfl⟩
         simp [binOp, Op.intDiv, hne])
theorem run_binShift {k k' : IntKind} {x y : Int} {op : BinOp} {r : TV} (h : binI k x y op = some r) (hs : shiftOp op = true) (t : TypeId) :
    ∃ v, (binOp op t (.int k x) (.int k' y)).run P w = .ok v w ∧ TRep w ok r v := by
  cases op <;> simp only [shiftOp] at hs <;> try (cases hs)
  all_goals
    simp only [binI] at h
    split at h
    · cases h
    · rename_i hne
      obtain rfl := Option.some.inj h
      refine ⟨_, ?_, by simp only [TRep]; rfl⟩
      simp [binOp, Op.shift, hne]

theorem eqGuard_int (op : BinOp) (t : TypeId) (x y : Operand) (k k' : IntKind) (m n : Int) : (eqGuard op t x y (.int k m) (.int k' n)).run P w = .ok () w := by cases op <;> rfl
theorem eqGuard_bool (op : BinOp) (t : TypeId) (x y : Operand) (m n : Bool) : (eqGuard op t x y (.bool m) (.bool n)).run P w = .ok () w := by cases op <;> rfl
theorem eqGuard_str (op : BinOp) (t : TypeId) (x y : Operand) (m n : ByteArray) : (eqGuard op t x y (.string m) (.string n)).run P w = .ok () w := by cases op <;> rfl

theorem op_bin (g : Gam N w0 ok0 st ok ρ a w) {d : Nat} (hd : o.dst = some d) (hN : d < N) {t t1 t2 u : TypeId} {op : BinOp} {x y : Operand} {x' y' : X} (ho : o.op = .binOp op t x y u) (hx : cX P t1 x = some x') (hy : cX P t2 y = some y')
    {bt : Bool} (ht : bt = true → P.underlying t = some .bool)
    (he : setV st d (binV bt op (x'.rd st.env) (y'.rd st.env)) = some st') (hn : Into N w0 ok0 st' next) : o.wp P a w next Q := by
  obtain ⟨r, hr, rfl⟩ := setV_some he
  have h1 := rd_ok g hx
  have h2 := rd_ok g hy
  generalize x'.rd st.env = l1 at hr h1
  generalize y'.rd st.env = l2 at hr h2
  unfold binV at hr
  split at hr
  · rename_i k m k' n
    have e1 := lv_int h1
    have e2 := lv_int h2
    have hg := eqGuard_int (P := P) (w := w) op t x y k k' m n
    split at hr
    · rename_i hk
      have : ∃ v, (binOp op t (.int k m) (.int k' n)).run P w = .ok v w ∧ TRep w ok r v := by
        cases hs : shiftOp op with
        | true => exact run_binShift hr hs t
        | false =>
          have : k = k' := by rcases hk with h | h; exact h; rw [hs] at h; cases h
          subst this
          exact run_binI hr hs t
      obtain ⟨v, hv, ht⟩ := this
      refine ok_val g hd hN (v := v) ?_ (by simp only [LRep]; exact ht) hn
      simp [execOp, ho, e1, e2, hg, hv]
    · cases hr
  · rename_i m n
    have e1 := lv_bool h1
    have e2 := lv_bool h2
    have hg := eqGuard_bool (P := P) (w := w) op t x y m n
    split at hr
    case isFalse => cases hr
    rename_i hbt
    have hb := ht hbt
    unfold binB at hr
    split at hr <;> try (cases hr)
    · refine ok_val g hd hN (v := .bool (m == n)) ?_ (by simp only [LRep, TRep]) hn
      simp [execOp, ho, e1, e2, hg, run_eql_bool w t m n hb]
    · refine ok_val g hd hN (v := .bool (!(m == n))) ?_ (by simp only [LRep, TRep]) hn
      simp [execOp, ho, e1, e2, hg, run_neq_bool w t m n hb]
  · rename_i m n
    have e1 := lv_str h1
    have e2 := lv_str h2
    have hg := eqGuard_str (P := P) (w := w) op t x y m n
    unfold binS at hr
    split at hr
    case h_4 =>
      split at hr
      · rename_i hsz
        obtain rfl := Option.some.inj hr
        refine ok_val g hd hN (v := .string (m ++ n)) ?_ (by simp only [LRep, TRep]) hn
        simp [execOp, ho, e1, e2, hg, binOp, run_string_add_sum w _ _ hsz]
      · cases hr
    all_goals
      first
        | (cases hr; done)
        | (cases hr
           refine ok_val g hd hN (v := .bool _) ?_ (lrep_v trep_bool) hn
           simp [execOp, ho, e1, e2, hg, binOp, Op.stringOp])
  · cases hr

theorem op_un (g : Gam N w0 ok0 st ok ρ a w) {d : Nat} (hd : o.dst = some d) (hN : d < N) {t t1 : TypeId} {op : UnOp} {x : Operand} {x' : X} (ho : o.op = .unOp op t x) (hx : cX P t1 x = some x')
    (he : setV st d (unV op (x'.rd st.env)) = some st') (hn : Into N w0 ok0 st' next) : o.wp P a w next Q := by
  obtain ⟨r, hr, rfl⟩ := setV_some he
  have h1 := rd_ok g hx
  generalize x'.rd st.env = l1 at hr h1
  unfold unV at hr
  split at hr
  · obtain rfl := Option.some.inj hr
    have e1 := lv_bool h1
    refine ok_val g hd hN (v := .bool _) ?_ (lrep_v trep_bool) hn
    simp [execOp, ho, e1, Op.unary]
  · obtain rfl := Option.some.inj hr
    have e1 := lv_int h1
    refine ok_val g hd hN (v := .int _ _) ?_ (lrep_v trep_int) hn
    simp [execOp, ho, e1, Op.unary, Op.intArith]
  · cases hr

theorem op_conv (g : Gam N w0 ok0 st ok ρ a w) {d : Nat} (hd : o.dst = some d) (hN : d < N) {src dst t1 : TypeId} {k k0 : IntKind} {x : Operand} {x' : X} (ho : o.op = .convert src dst x) (hx : cX P t1 x = some x')
    (hs : P.underlying src = some (.int k0)) (ht : P.underlying dst = some (.int k))
    (he : setV st d (convV k (x'.rd st.env)) = some st') (hn : Into N w0 ok0 st' next) : o.wp P a w next Q := by
  obtain ⟨r, hr, rfl⟩ := setV_some he
  have h1 := rd_ok g hx
  generalize x'.rd st.env = l1 at hr h1
  unfold convV at hr
  split at hr
  · obtain rfl := Option.some.inj hr
    have e1 := lv_int h1
    refine ok_val g hd hN (v := .int _ _) ?_ (lrep_v trep_int) hn
    simp [execOp, ho, e1, convert, run_underlying hs, run_underlying ht, Conv.intToInt]
  · cases hr

theorem agg_form {cs : List LV} {x : Value} (h : LRep w ok ρ st.hp (.agg cs) x) : ∃ vs, x = .agg vs ∧ LReps w ok ρ st.hp true cs vs.toList := by simpa only [LRep] using h

theorem op_fld (g : Gam N w0 ok0 st ok ρ a w) {d : Nat} (hd : o.dst = some d) (hN : d < N) {t t1 : TypeId} {x : Operand} {x' : X} {i : Nat} {fs : Array Field} {f : Field} {n : Nat} (ho : o.op = .field t x i) (hx : cX P t1 x = some x')
    (hu : P.underlying t = some (.struct fs)) (hf : fs[i]? = some f) (hs : size? P f.type = some n) (hk : ∃ k, P.underlying f.type = some k) (h1 : isAggB P f.type = false → n = 1)
    (he : setM st d (fldL f.offset n (isAggB P f.type) (x'.rd st.env)) = some st') (hn : Into N w0 ok0 st' next) : o.wp P a w next Q := by
  obtain ⟨l, hl, rfl⟩ := setM_some he
  have hr := rd_ok g hx
  generalize x'.rd st.env = l1 at hl hr
  unfold fldL at hl
  split at hl
  · obtain ⟨vs, e1, h2⟩ := agg_form hr
    obtain ⟨hle, h3⟩ := cut_ok hl h2
    obtain ⟨k, hk⟩ := hk
    refine ok_val g hd hN (v := _) ?_ h3 hn
    have := run_part (P := P) w hk hs vs f.offset (by simpa using hle) h1
    simp [execOp, ho, e1, Instr.field, run_underlying hu, hf, asAgg, this]
  · cases hl

theorem op_faddr (g : Gam N w0 ok0 st ok ρ a w) {d : Nat} (hd : o.dst = some d) (hN : d < N) {t t1 : TypeId} {x : Operand} {x' : X} {i : Nat} {fs : Array Field} {f : Field} {n : Nat} (ho : o.op = .fieldAddr t x i) (hx : cX P t1 x = some x')
    (hu : P.underlying t = some (.struct fs)) (hf : fs[i]? = some f) (hs : size? P f.type = some (n + 1))
    (he : setM st d (faddrL f.offset (x'.rd st.env)) = some st') (hn : Into N w0 ok0 st' next) : o.wp P a w next Q := by
  obtain ⟨l, hl, rfl⟩ := setM_some he
  have hr := rd_ok g hx
  generalize x'.rd st.env = l1 at hl hr
  have run : ∀ b, (Instr.fieldAt t (.pointer (some b)) i).run P w = .ok (.pointer (some (b.add f.offset))) w := fun b => by
    simp [Instr.fieldAt, run_underlying hu, hf, Instr.sureAddr, fieldPlace, run_sizeOf w hs]
  unfold faddrL at hl
  split at hl
  · rename_i id o'
    obtain rfl := Option.some.inj hl
    obtain ⟨b, hb⟩ := lv_p hr
    refine ok_val g hd hN (v := .pointer (some (b.add f.offset))) ?_ ?_ hn
    · simp [execOp, ho, hb, run]
    · simp only [LRep] at hr ⊢
      rw [hb] at hr
      unfold PRep at hr ⊢
      split at hr
      · obtain ⟨b', K, h1, h2⟩ := hr
        obtain rfl : b = ⟨b', o', none⟩ := by simpa using h2
        exact ⟨b', K, h1, by rw [addr_add]⟩
      · exact ⟨_, rfl⟩
      · exact hr.elim
  · rename_i id r o'
    obtain rfl := Option.some.inj hl
    obtain ⟨b, hb⟩ := lv_pe hr
    refine ok_val g hd hN (v := .pointer (some (b.add f.offset))) ?_ ?_ hn
    · simp [execOp, ho, hb, run]
    · simp only [LRep] at hr ⊢
      rw [hb] at hr
      unfold ERep at hr ⊢
      split at hr
      · obtain ⟨b', K, h1, h2⟩ := hr
        obtain rfl : b = ⟨b', r * _ + o', none⟩ := by simpa using h2
        exact ⟨b', K, h1, by rw [addr_add, Nat.add_assoc]⟩
      · exact ⟨_, rfl⟩
      · exact hr.elim
  · rename_i cs
    obtain rfl := Option.some.inj hl
    simp only [LRep, TRep] at hr
    obtain ⟨b, o', hb, h2, h3⟩ := hr
    refine ok_val g hd hN (v := .pointer (some ⟨b, o' + f.offset, none⟩)) ?_ ?_ hn
    · simp [execOp, ho, hb, run, addr_add]
    · simp only [LRep, TRep]
      exact ⟨b, _, rfl, h2, h3.drop _⟩
  · cases hl
end
end Go.Proofs.Ytehcfmohjcjmpaa.Sx
