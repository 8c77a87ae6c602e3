/- The evaluator's single operations are sound,the second lot: numbers,addresses,slices' bounds. The evaluator's single operations are sound,the third lot: elements,cuts,lengths. The evaluator's single operations are sound,the fourth lot: what is laid into memory. The evaluator's single operations are sound,the fifth lot: stores,structs,appends. The evaluator's single operations are sound,the sixth lot: structs that are built,appends,copies,the least and the greatest,equal structs. The evaluator's single operations are sound,the seventh lot: append,copy. The evaluator's single operations are sound,the eighth lot: copies,bytes to a string,the least and the greatest,a made slice,equal structs. The evaluator's single operations are sound,the ninth lot: equal structs. -/
import Derived.Laws.Concat
import Derived.Laws.CopyRow
import Derived.Laws.BytesString
import Derived.Test.YtcecojdeljbjoaaSxG1
set_option maxRecDepth 100000
set_option linter.unusedSimpArgs false
set_option linter.unusedVariables false
namespace Go.Proofs.Ytcecojdeljbjoaa.Sx
open Go Go.RowKit
section
variable {P : Program} {N : Rm} {w0 : World} {ok0 : Nat→Prop} {st st' : St} {ok : Nat→Prop} {ρ : Rho} {a : Act} {w w' : World}
  {next : Act→World→Prop} {Q : Exit→Act→World→Prop} {o : Oper} {rd : Option Nat}

theorem lv_p {id off : Nat} {x : Value} (h : LRep w ok ρ st.hp (.p id off) x) : ∃ b,x=.pointer (some b):=by simp only [LRep] at h; exact h.shape
theorem lv_pe {id r off : Nat} {x : Value} (h : LRep w ok ρ st.hp (.pe id r off) x) : ∃ b,x=.pointer (some b):=by simp only [LRep] at h; exact h.shape

theorem op_nchk (g : Gam N w0 ok0 st ok ρ a w) {d : Nat} (hd : o.dst=some d) (hN : N.may d) {t : TypeId} {x : Operand} {y : X} (ho : o.op=.nilCheck x) (hy : cX P t x=some y)
    (he : setM st d (nchkL (y.rd st.env))=some st') (hn : Into N w0 ok0 st' next) : o.wpIn (FR rd) 0 P a w next Q:=by
  obtain ⟨l,hl,rfl⟩:=setM_some he
  have h:=rd_ok g hy
  generalize y.rd st.env=l1 at hl h
  unfold nchkL at hl
  split at hl
  · obtain rfl := Option.some.inj hl
    obtain ⟨b,hb⟩:=lv_p h
    refine ok_val g hd hN (v:=a.eval x) ?_ h hn
    simp [execOp,ho,hb]
  · obtain rfl := Option.some.inj hl
    obtain ⟨b,hb⟩:=lv_pe h
    refine ok_val g hd hN (v:=a.eval x) ?_ h hn
    simp [execOp,ho,hb]
  · obtain rfl := Option.some.inj hl
    obtain ⟨b,o',hb,_⟩ : ∃ b o',a.eval x=.pointer (some ⟨b,o',none⟩)∧True:=by
      simp only [LRep,TRep] at h
      obtain ⟨b,o',hb,_⟩:=h
      exact ⟨b,o',hb,trivial⟩
    refine ok_val g hd hN (v:=a.eval x) ?_ h hn
    simp [execOp,ho,hb]
  · obtain rfl := Option.some.inj hl
    obtain ⟨vs,hb⟩ : ∃ vs,a.eval x=.func (.func _) #[] vs:=by
      simp only [LRep] at h
      obtain ⟨vs,hb,_⟩:=h
      exact ⟨vs,hb⟩
    refine ok_val g hd hN (v:=a.eval x) ?_ h hn
    simp [execOp,ho,hb]
  · obtain rfl := Option.some.inj hl
    obtain ⟨vs,hb⟩ : ∃ vs,a.eval x=.func (.func _) #[] vs:=by
      simp only [LRep,TRep] at h
      obtain ⟨vs,hb,_⟩:=h
      exact ⟨vs,hb⟩
    refine ok_val g hd hN (v:=a.eval x) ?_ h hn
    simp [execOp,ho,hb]
  · cases hl

/-! ### numbers -/
theorem int_beq (x y : Int) : (x == y)=decide (x=y):=by by_cases h : x=y<;>simp [h]
theorem int_bne (x y : Int) : (x != y)=!decide (x=y):=by by_cases h : x=y<;>simp [h]
theorem run_binI {k : IntKind} {x y : Int} {op : BinOp} {r : TV} (h : binI k x y op=some r) (hs : shiftOp op=false) (t : TypeId) :
    ∃ v,(binOp op t (.int k x) (.int k y)).run P w=.ok v w∧TRep w ok r v:=by
  cases op<;>simp only [binI,shiftOp,andB,orB,xorB,andNotB] at h hs<;>try (cases hs)
  all_goals first
    | (obtain rfl:=Option.some.inj h
       refine ⟨_,?_,by simp only [TRep]; rfl⟩
       simp [binOp,Op.intArith,Op.intBits,Op.intCmp,int_beq,int_bne]
       done)
    | (split at h
       · cases h
       · rename_i hne
         obtain rfl:=Option.some.inj h
         refine ⟨_,?_,by simp only [TRep]; rfl⟩
         simp [binOp,Op.intDiv,hne])
theorem run_binShift {k k' : IntKind} {x y : Int} {op : BinOp} {r : TV} (h : binI k x y op=some r) (hs : shiftOp op=true) (t : TypeId) :
    ∃ v,(binOp op t (.int k x) (.int k' y)).run P w=.ok v w∧TRep w ok r v:=by
  cases op<;>simp only [shiftOp] at hs<;>try (cases hs)
  all_goals
    simp only [binI] at h
    split at h
    · cases h
    · rename_i hne
      obtain rfl:=Option.some.inj h
      refine ⟨_,?_,by simp only [TRep]; rfl⟩
      simp [binOp,Op.shift,hne]

theorem eqGuard_int (op : BinOp) (t : TypeId) (x y : Operand) (k k' : IntKind) (m n : Int) : (eqGuard op t x y (.int k m) (.int k' n)).run P w=.ok () w:=by cases op<;>rfl
theorem eqGuard_bool (op : BinOp) (t : TypeId) (x y : Operand) (m n : Bool) : (eqGuard op t x y (.bool m) (.bool n)).run P w=.ok () w:=by cases op<;>rfl
theorem eqGuard_str (op : BinOp) (t : TypeId) (x y : Operand) (m n : ByteArray) : (eqGuard op t x y (.string m) (.string n)).run P w=.ok () w:=by cases op<;>rfl

theorem op_bin (g : Gam N w0 ok0 st ok ρ a w) {d : Nat} (hd : o.dst=some d) (hN : N.may d) {t t1 t2 u : TypeId} {op : BinOp} {x y : Operand} {x' y' : X} (ho : o.op=.binOp op t x y u) (hx : cX P t1 x=some x') (hy : cX P t2 y=some y')
    {bt : Bool} (ht : bt=true→P.underlying t=some .bool)
    (he : setV st d (binV bt op (x'.rd st.env) (y'.rd st.env))=some st') (hn : Into N w0 ok0 st' next) : o.wpIn (FR rd) 0 P a w next Q:=by
  obtain ⟨r,hr,rfl⟩:=setV_some he
  have h1:=rd_ok g hx
  have h2:=rd_ok g hy
  generalize x'.rd st.env=l1 at hr h1
  generalize y'.rd st.env=l2 at hr h2
  unfold binV at hr
  split at hr
  · rename_i k m k' n
    have e1:=lv_int h1
    have e2:=lv_int h2
    have hg:=eqGuard_int (P:=P) (w:=w) op t x y k k' m n
    split at hr
    · rename_i hk
      have : ∃ v,(binOp op t (.int k m) (.int k' n)).run P w=.ok v w∧TRep w ok r v:=by
        cases hs : shiftOp op with
        | true => exact run_binShift hr hs t
        | false =>
          have : k=k':=by rcases hk with h | h; exact h; rw [hs] at h; cases h
          subst this
          exact run_binI hr hs t
      obtain ⟨v,hv,ht⟩:=this
      refine ok_val g hd hN (v:=v) ?_ (by simp only [LRep]; exact ht) hn
      simp [execOp,ho,e1,e2,hg,hv]
    · cases hr
  · rename_i m n
    have e1:=lv_bool h1
    have e2:=lv_bool h2
    have hg:=eqGuard_bool (P:=P) (w:=w) op t x y m n
    split at hr
    case isFalse => cases hr
    rename_i hbt
    have hb:=ht hbt
    unfold binB at hr
    split at hr<;>try (cases hr)
    · refine ok_val g hd hN (v := .bool (m == n)) ?_ (by simp only [LRep, TRep]) hn
      simp [execOp,ho,e1,e2,hg,run_eql_bool w t m n hb]
    · refine ok_val g hd hN (v := .bool (!(m == n))) ?_ (by simp only [LRep, TRep]) hn
      simp [execOp,ho,e1,e2,hg,run_neq_bool w t m n hb]
  · rename_i m n
    have e1:=lv_str h1
    have e2:=lv_str h2
    have hg:=eqGuard_str (P:=P) (w:=w) op t x y m n
    unfold binS at hr
    split at hr
    case h_4 =>
      split at hr
      · rename_i hsz
        obtain rfl:=Option.some.inj hr
        refine ok_val g hd hN (v:=.string (m++n)) ?_ (by simp only [LRep,TRep]) hn
        simp [execOp,ho,e1,e2,hg,binOp,run_string_add_sum w _ _ hsz]
      · cases hr
    all_goals
      first
        | (cases hr; done)
        | (cases hr
           refine ok_val g hd hN (v:=.bool _) ?_ (lrep_v trep_bool) hn
           simp [execOp,ho,e1,e2,hg,binOp,Op.stringOp])
  · cases hr

theorem op_un (g : Gam N w0 ok0 st ok ρ a w) {d : Nat} (hd : o.dst=some d) (hN : N.may d) {t t1 : TypeId} {op : UnOp} {x : Operand} {x' : X} (ho : o.op=.unOp op t x) (hx : cX P t1 x=some x')
    (he : setV st d (unV op (x'.rd st.env))=some st') (hn : Into N w0 ok0 st' next) : o.wpIn (FR rd) 0 P a w next Q:=by
  obtain ⟨r,hr,rfl⟩:=setV_some he
  have h1:=rd_ok g hx
  generalize x'.rd st.env=l1 at hr h1
  unfold unV at hr
  split at hr
  · obtain rfl := Option.some.inj hr
    have e1:=lv_bool h1
    refine ok_val g hd hN (v:=.bool _) ?_ (lrep_v trep_bool) hn
    simp [execOp,ho,e1,Op.unary]
  · obtain rfl := Option.some.inj hr
    have e1:=lv_int h1
    refine ok_val g hd hN (v:=.int _ _) ?_ (lrep_v trep_int) hn
    simp [execOp,ho,e1,Op.unary,Op.intArith]
  · cases hr

theorem op_conv (g : Gam N w0 ok0 st ok ρ a w) {d : Nat} (hd : o.dst=some d) (hN : N.may d) {src dst t1 : TypeId} {k k0 : IntKind} {x : Operand} {x' : X} (ho : o.op=.convert src dst x) (hx : cX P t1 x=some x')
    (hs : P.underlying src=some (.int k0)) (ht : P.underlying dst=some (.int k))
    (he : setV st d (convV k (x'.rd st.env))=some st') (hn : Into N w0 ok0 st' next) : o.wpIn (FR rd) 0 P a w next Q:=by
  obtain ⟨r,hr,rfl⟩:=setV_some he
  have h1:=rd_ok g hx
  generalize x'.rd st.env=l1 at hr h1
  unfold convV at hr
  split at hr
  · obtain rfl := Option.some.inj hr
    have e1:=lv_int h1
    refine ok_val g hd hN (v:=.int _ _) ?_ (lrep_v trep_int) hn
    simp [execOp,ho,e1,convert,run_underlying hs,run_underlying ht,Conv.intToInt]
  · cases hr

theorem agg_form {cs : List LV} {x : Value} (h : LRep w ok ρ st.hp (.agg cs) x) : ∃ vs,x=.agg vs∧LReps w ok ρ st.hp true cs vs.toList:=by simpa only [LRep] using h

theorem op_fld (g : Gam N w0 ok0 st ok ρ a w) {d : Nat} (hd : o.dst=some d) (hN : N.may d) {t t1 : TypeId} {x : Operand} {x' : X} {i : Nat} {fs : Array Field} {f : Field} {n : Nat} (ho : o.op=.field t x i) (hx : cX P t1 x=some x')
    (hu : P.underlying t=some (.struct fs)) (hf : fs[i]?=some f) (hs : size? P f.type=some n) (hk : ∃ k,P.underlying f.type=some k) (h1 : isAggB P f.type=false→n=1)
    (he : setM st d (fldL f.offset n (isAggB P f.type) (x'.rd st.env))=some st') (hn : Into N w0 ok0 st' next) : o.wpIn (FR rd) 0 P a w next Q:=by
  obtain ⟨l,hl,rfl⟩:=setM_some he
  have hr:=rd_ok g hx
  generalize x'.rd st.env=l1 at hl hr
  unfold fldL at hl
  split at hl
  · obtain ⟨vs, e1, h2⟩ := agg_form hr
    obtain ⟨hle,h3⟩:=cut_ok hl h2
    obtain ⟨k,hk⟩:=hk
    refine ok_val g hd hN (v:=_) ?_ h3 hn
    have:=run_part (P:=P) w hk hs vs f.offset (by simpa using hle) h1
    simp [execOp,ho,e1,Instr.field,run_underlying hu,hf,asAgg,this]
  · cases hl

theorem op_faddr (g : Gam N w0 ok0 st ok ρ a w) {d : Nat} (hd : o.dst=some d) (hN : N.may d) {t t1 : TypeId} {x : Operand} {x' : X} {i : Nat} {fs : Array Field} {f : Field} {n : Nat} (ho : o.op=.fieldAddr t x i) (hx : cX P t1 x=some x')
    (hu : P.underlying t=some (.struct fs)) (hf : fs[i]?=some f) (hs : size? P f.type=some (n+1))
    (he : setM st d (faddrL f.offset (x'.rd st.env))=some st') (hn : Into N w0 ok0 st' next) : o.wpIn (FR rd) 0 P a w next Q:=by
  obtain ⟨l,hl,rfl⟩:=setM_some he
  have hr:=rd_ok g hx
  generalize x'.rd st.env=l1 at hl hr
  have run : ∀ b,(Instr.fieldAt t (.pointer (some b)) i).run P w=.ok (.pointer (some (b.add f.offset))) w:=fun b => by
    simp [Instr.fieldAt,run_underlying hu,hf,Instr.sureAddr,fieldPlace,run_sizeOf w hs]
  unfold faddrL at hl
  split at hl
  · rename_i id o'
    obtain rfl:=Option.some.inj hl
    obtain ⟨b,hb⟩:=lv_p hr
    refine ok_val g hd hN (v:=.pointer (some (b.add f.offset))) ?_ ?_ hn
    · simp [execOp,ho,hb,run]
    · simp only [LRep] at hr ⊢
      rw [hb] at hr
      unfold PRep at hr ⊢
      split at hr
      · obtain ⟨b', K, h1, h2⟩ := hr
        obtain rfl : b=⟨b',o',none⟩:=by simpa using h2
        exact ⟨b',K,h1,by rw [addr_add]⟩
      · exact ⟨_,rfl⟩
      · exact hr.elim
  · rename_i id r o'
    obtain rfl:=Option.some.inj hl
    obtain ⟨b,hb⟩:=lv_pe hr
    refine ok_val g hd hN (v:=.pointer (some (b.add f.offset))) ?_ ?_ hn
    · simp [execOp,ho,hb,run]
    · simp only [LRep] at hr ⊢
      rw [hb] at hr
      unfold ERep at hr ⊢
      split at hr
      · obtain ⟨b', K, h1, h2⟩ := hr
        obtain rfl : b=⟨b',r * _+o',none⟩:=by simpa using h2
        exact ⟨b',K,h1,by rw [addr_add,Nat.add_assoc]⟩
      · exact ⟨_,rfl⟩
      · exact hr.elim
  · rename_i cs
    obtain rfl:=Option.some.inj hl
    simp only [LRep,TRep] at hr
    obtain ⟨b,o',hb,h2,h3⟩:=hr
    refine ok_val g hd hN (v:=.pointer (some ⟨b,o'+f.offset,none⟩)) ?_ ?_ hn
    · simp [execOp,ho,hb,run,addr_add]
    · simp only [LRep, TRep]
      exact ⟨b,_,rfl,h2,h3.drop _⟩
  · cases hl
end
end Go.Proofs.Ytcecojdeljbjoaa.Sx
namespace Go.Proofs.Ytcecojdeljbjoaa.Sx
open Go Go.RowKit
section
variable {P : Program} {N : Rm} {w0 : World} {ok0 : Nat→Prop} {st st' : St} {ok : Nat→Prop} {ρ : Rho} {a : Act} {w w' : World}
  {next : Act→World→Prop} {Q : Exit→Act→World→Prop} {o : Oper} {rd : Option Nat}

theorem sl_form {fl : Fl} {sz : Nat} {rows : List (List TV)} {x : Value} (h : LRep w ok ρ st.hp (.v (.sl fl sz rows)) x) :
    ∃ ad cap,x=.slice ad rows.length cap∧rows.length≤cap∧cap≤maxLen∧(∀ e,fl=.tight e→cap=rows.length)∧(rows=[]∨∃ b o',ad=some ⟨b,o',none⟩∧ok b∧RowsRep w ok sz b rows o'):=by
  simp only [LRep,TRep] at h
  obtain ⟨ad,len,cap,h1,h2,h3,h4,h5,h6⟩:=h
  subst h2
  exact ⟨ad,cap,h1,h3,h4,h5,h6⟩

theorem op_iaddr (g : Gam N w0 ok0 st ok ρ a w) {d : Nat} (hd : o.dst=some d) (hN : N.may d) {t e t1 t2 : TypeId} {x i : Operand} {x' i' : X} {sz : Nat} (ho : o.op=.indexAddr t x i) (hx : cX P t1 x=some x') (hi : cX P t2 i=some i')
    (hu : P.underlying t=some (.slice e)) (hs : size? P e=some sz)
    (he : setM st d (iaddrL st.hp sz (x'.rd st.env) (i'.rd st.env))=some st') (hn : Into N w0 ok0 st' next) : o.wpIn (FR rd) 0 P a w next Q:=by
  obtain ⟨l,hl,rfl⟩:=setM_some he
  have h1:=rd_ok g hx
  have h2:=rd_ok g hi
  generalize x'.rd st.env=l1 at hl h1
  generalize i'.rd st.env=l2 at hl h2
  unfold iaddrL at hl
  split at hl
  · rename_i fl sz' rows k n
    split at hl
    · rename_i hc
      obtain ⟨rfl,h0⟩:=hc
      obtain ⟨ad,cap,e1,_,_,_,h6⟩:=sl_form h1
      have e2:=lv_int h2
      cases hr : rows[n.toNat]? with
      | none => rw [hr] at hl; cases hl
      | some r =>
        rw [hr] at hl
        obtain rfl:=Option.some.inj hl
        rcases h6 with rfl | ⟨b,o',rfl,hb,hrows⟩
        · simp at hr
        · obtain ⟨_, hcells⟩ := hrows.get _ _ hr
          have hlt : n < rows.length:=by have:=(List.getElem?_eq_some_iff.1 hr).1; omega
          refine ok_val g hd hN (v:=.pointer (some ⟨b,o'+n.toNat * sz',none⟩)) ?_ ?_ hn
          · simp [execOp,ho,e1,e2,run_indexAt w hu hs b o' rows.length cap k n h0 hlt]
          · simp only [LRep, TRep]
            exact ⟨b,_,rfl,hb,hcells⟩
    · cases hl
  · rename_i id off len k n
    have e2:=lv_int h2
    simp only [LRep] at h1
    unfold iaddrS at hl
    split at hl
    · rename_i fz e' sz' rows hid
      split at hl
      · rename_i hc
        obtain ⟨rfl,h0,hlt⟩:=hc
        obtain rfl:=Option.some.inj hl
        rw [hid] at h1
        simp only [SRep] at h1
        obtain ⟨ad,cap,e1,h3,h4,h5,h6⟩:=h1
        rcases h6 with ⟨_,h6,_⟩ | ⟨b,K,h7,h8,h9⟩
        · exfalso; omega
        · rcases h9 with rfl | ⟨h9, _⟩
          · refine ok_val g hd hN (v := .pointer (some ⟨b, off * sz' + n.toNat * sz', none⟩)) ?_ ?_ hn
            · simp [execOp,ho,e1,e2,run_indexAt w hu hs b (off * sz') len cap k n h0 hlt]
            · simp only [LRep, hid, ERep]
              exact ⟨b,K,h7,by rw [Nat.add_mul,Nat.add_zero]⟩
          · exfalso; omega
      · cases hl
    · rename_i fz cs hid
      split at hl
      · rename_i hc
        obtain ⟨rfl,h0,hlt,_⟩:=hc
        obtain rfl:=Option.some.inj hl
        rw [hid] at h1
        simp only [SRep] at h1
        obtain ⟨rfl,b,cap,h7,e1,h8,h9⟩:=h1
        refine ok_val g hd hN (v:=.pointer (some ⟨b,0+n.toNat * 1,none⟩)) ?_ ?_ hn
        · simp [execOp,ho,e1,e2,run_indexAt w hu hs b 0 len cap k n h0 hlt]
        · simp only [LRep, hid, PRep]
          exact ⟨b,cap,h7,by simp⟩
      · cases hl
    · cases hl
  · cases hl

theorem faddr_rep {off : Nat} {l r : LV} {x : Value} (h : faddrL off l=some r) (hx : LRep w ok ρ st.hp l x) : ∃ b,x=.pointer (some b)∧LRep w ok ρ st.hp r (.pointer (some (b.add off))):=by
  unfold faddrL at h
  split at h
  · rename_i id o'
    obtain rfl:=Option.some.inj h
    obtain ⟨b,hb⟩:=lv_p hx
    refine ⟨b,hb,?_⟩
    simp only [LRep] at hx ⊢
    rw [hb] at hx
    unfold PRep at hx ⊢
    split at hx
    · obtain ⟨b', K, h1, h2⟩ := hx
      obtain rfl : b=⟨b',o',none⟩:=by simpa using h2
      exact ⟨b',K,h1,by rw [addr_add]⟩
    · exact ⟨_,rfl⟩
    · exact hx.elim
  · rename_i id r o'
    obtain rfl:=Option.some.inj h
    obtain ⟨b,hb⟩:=lv_pe hx
    refine ⟨b,hb,?_⟩
    simp only [LRep] at hx ⊢
    rw [hb] at hx
    unfold ERep at hx ⊢
    split at hx
    · obtain ⟨b', K, h1, h2⟩ := hx
      obtain rfl : b=⟨b',r * _+o',none⟩:=by simpa using h2
      exact ⟨b',K,h1,by rw [addr_add,Nat.add_assoc]⟩
    · exact ⟨_,rfl⟩
    · exact hx.elim
  · rename_i cs
    obtain rfl:=Option.some.inj h
    simp only [LRep,TRep] at hx
    obtain ⟨b,o',hb,h2,h3⟩:=hx
    refine ⟨_,hb,?_⟩
    simp only [LRep,TRep,addr_add]
    exact ⟨b,_,rfl,h2,h3.drop _⟩
  · cases h
theorem op_aaddr (g : Gam N w0 ok0 st ok ρ a w) {d : Nat} (hd : o.dst=some d) (hN : N.may d) {t e t1 t2 : TypeId} {x i : Operand} {x' i' : X} {len sz : Nat} (ho : o.op=.indexAddr t x i) (hx : cX P t1 x=some x') (hi : cX P t2 i=some i')
    (hu : P.underlying t=some (.array len e)) (hs : size? P e=some sz)
    (he : setM st d (aaddrL len sz (x'.rd st.env) (i'.rd st.env))=some st') (hn : Into N w0 ok0 st' next) : o.wpIn (FR rd) 0 P a w next Q:=by
  obtain ⟨l,hl,rfl⟩:=setM_some he
  have h1:=rd_ok g hx
  have h2:=rd_ok g hi
  generalize x'.rd st.env=l1 at hl h1
  generalize i'.rd st.env=l2 at hl h2
  unfold aaddrL at hl
  split at hl
  · rename_i k n
    split at hl
    · rename_i hh
      obtain ⟨b,e1,e2⟩:=faddr_rep hl h1
      have e3:=lv_int h2
      refine ok_val g hd hN (v:=.pointer (some (b.add (n.toNat * sz)))) ?_ e2 hn
      simp [execOp,ho,e1,e3,Instr.indexAt,asIntOf,run_underlying hu,Instr.sureAddr,hh.1,hh.2,run_sizeOf w hs]
    · cases hl
  · cases hl
theorem op_ixa (g : Gam N w0 ok0 st ok ρ a w) {d : Nat} (hd : o.dst=some d) (hN : N.may d) {t e t1 t2 : TypeId} {x i : Operand} {x' i' : X} {len sz : Nat} (ho : o.op=.index t x i) (hx : cX P t1 x=some x') (hi : cX P t2 i=some i')
    (hu : P.underlying t=some (.array len e)) (hs : size? P e=some sz) (hk : ∃ k,P.underlying e=some k) (h1 : isAggB P e=false→sz=1)
    (he : setM st d (ixaL len sz (isAggB P e) (x'.rd st.env) (i'.rd st.env))=some st') (hn : Into N w0 ok0 st' next) : o.wpIn (FR rd) 0 P a w next Q:=by
  obtain ⟨l,hl,rfl⟩:=setM_some he
  have hr:=rd_ok g hx
  have h2:=rd_ok g hi
  generalize x'.rd st.env=l1 at hl hr
  generalize i'.rd st.env=l2 at hl h2
  unfold ixaL at hl
  split at hl
  · rename_i cs k n
    split at hl
    · rename_i hc
      obtain ⟨h0,hlt⟩:=hc
      obtain ⟨vs,e1,h3⟩:=agg_form hr
      obtain ⟨hle,h4⟩:=cut_ok hl h3
      have e2:=lv_int h2
      obtain ⟨kk,hk⟩:=hk
      refine ok_val g hd hN (v:=_) ?_ h4 hn
      have:=run_part (P:=P) w hk hs vs (n.toNat * sz) (by simpa using hle) h1
      simp [execOp,ho,e1,e2,Instr.index,asIntOf,run_underlying hu,h0,hlt,run_sizeOf w hs,this]
    · cases hl
  · cases hl

theorem op_ixs (g : Gam N w0 ok0 st ok ρ a w) {d : Nat} (hd : o.dst=some d) (hN : N.may d) {t t1 t2 : TypeId} {x i : Operand} {x' i' : X} (ho : o.op=.index t x i) (hx : cX P t1 x=some x') (hi : cX P t2 i=some i')
    (hu : P.underlying t=some .string)
    (he : setM st d (ixsL (x'.rd st.env) (i'.rd st.env))=some st') (hn : Into N w0 ok0 st' next) : o.wpIn (FR rd) 0 P a w next Q:=by
  obtain ⟨l,hl,rfl⟩:=setM_some he
  have hr:=rd_ok g hx
  have h2:=rd_ok g hi
  generalize x'.rd st.env=l1 at hl hr
  generalize i'.rd st.env=l2 at hl h2
  unfold ixsL at hl
  split at hl
  · rename_i z k n
    split at hl
    · rename_i h0
      have e1:=lv_str hr
      have e2:=lv_int h2
      cases hb : z.data.toList[n.toNat]? with
      | none => rw [hb] at hl; cases hl
      | some b =>
        rw [hb] at hl
        obtain rfl:=Option.some.inj hl
        refine ok_val g hd hN (v:=.int .u8 b.toNat) ?_ (lrep_v trep_int) hn
        have hb' : z[n.toNat]?=some b:=by
          have h3:=(List.getElem?_eq_some_iff.1 hb)
          obtain ⟨h4,h5⟩:=h3
          rw [getElem?_pos z n.toNat (by simpa using h4)]
          congr 1
        simp [execOp,ho,e1,e2,Instr.index,asIntOf,run_underlying hu,h0,hb']
    · cases hl
  · cases hl

theorem op_len (g : Gam N w0 ok0 st ok ρ a w) {d : Nat} (hd : o.dst=some d) (hN : N.may d) {t t1 : TypeId} {x : Operand} {x' : X} (ho : o.op=.call { callee:=.builtin .len,args:=#[x],argTypes:=#[t] }) (hx : cX P t1 x=some x')
    {z : Bool} (hcomp : z=true→P.underlying t=some .string) (hcomp' : z=false→∃ e,P.underlying t=some (.slice e))
    (he : setV st d (lenV z (x'.rd st.env))=some st') (hn : Into N w0 ok0 st' next) : o.wpIn (FR rd) 0 P a w next Q:=by
  obtain ⟨l,hl,rfl⟩:=setV_some he
  have hr:=rd_ok g hx
  generalize x'.rd st.env=l1 at hl hr
  unfold lenV at hl
  split at hl
  · obtain rfl := Option.some.inj hl
    obtain ⟨ad,cap,e1,_⟩:=sl_form hr
    obtain ⟨e,hu⟩:=hcomp' rfl
    refine ok_val g hd hN (v:=.int .i64 _) ?_ (lrep_v trep_int) hn
    simp [execOp,ho,resolve,invoke,builtin,e1,Builtin.len_,run_underlying hu,goInt]
  · obtain rfl := Option.some.inj hl
    have e1:=lv_str hr
    refine ok_val g hd hN (v:=.int .i64 _) ?_ (lrep_v trep_int) hn
    simp [execOp,ho,resolve,invoke,builtin,e1,Builtin.len_,run_underlying (hcomp rfl),goInt]
  · obtain rfl := Option.some.inj hl
    simp only [LRep] at hr
    obtain ⟨ad,cap,e1,_⟩:=hr.shape
    obtain ⟨e,hu⟩:=hcomp' rfl
    refine ok_val g hd hN (v:=.int .i64 _) ?_ (lrep_v trep_int) hn
    simp [execOp,ho,resolve,invoke,builtin,e1,Builtin.len_,run_underlying hu,goInt]
  · cases hl

theorem op_cap (g : Gam N w0 ok0 st ok ρ a w) {d : Nat} (hd : o.dst=some d) (hN : N.may d) {t e t1 : TypeId} {x : Operand} {x' : X} (ho : o.op=.call { callee:=.builtin .cap,args:=#[x],argTypes:=#[t] }) (hx : cX P t1 x=some x')
    (hu : P.underlying t=some (.slice e))
    (he : setV st d (capV (x'.rd st.env))=some st') (hn : Into N w0 ok0 st' next) : o.wpIn (FR rd) 0 P a w next Q:=by
  obtain ⟨l,hl,rfl⟩:=setV_some he
  have hr:=rd_ok g hx
  generalize x'.rd st.env=l1 at hl hr
  unfold capV at hl
  split at hl
  · rename_i te sz rows
    obtain rfl:=Option.some.inj hl
    obtain ⟨ad,cap,e1,_,_,h5,_⟩:=sl_form hr
    obtain rfl:=h5 _ rfl
    refine ok_val g hd hN (v:=.int .i64 _) ?_ (lrep_v trep_int) hn
    simp [execOp,ho,resolve,invoke,builtin,e1,Builtin.cap_,run_underlying hu,goInt]
  · cases hl

theorem op_ext (g : Gam N w0 ok0 st ok ρ a w) {d : Nat} (hd : o.dst=some d) (hN : N.may d) {t1 : TypeId} {x : Operand} {x' : X} {i : Nat} (ho : o.op=.extract x i) (hx : cX P t1 x=some x')
    (he : setM st d (extL i (x'.rd st.env))=some st') (hn : Into N w0 ok0 st' next) : o.wpIn (FR rd) 0 P a w next Q:=by
  obtain ⟨l,hl,rfl⟩:=setM_some he
  have hr:=rd_ok g hx
  generalize x'.rd st.env=l1 at hl hr
  unfold extL at hl
  split at hl
  · simp only [LRep] at hr
    obtain ⟨vs,e1,h2⟩:=hr
    obtain ⟨v,h3,_,h4⟩:=h2.get i l hl
    refine ok_val g hd hN (v:=v) ?_ h4 hn
    have h3' : vs[i]?=some v:=by simpa using h3
    simp [execOp,ho,e1,Instr.extract,h3']
  · cases hl

theorem op_mkfn (g : Gam N w0 ok0 st ok ρ a w) {d : Nat} (hd : o.dst=some d) (hN : N.may d) {f : FuncId} {ts : List TypeId} {caps : Array Operand} {cs : List X} (ho : o.op=.makeFunc (.func f) #[] caps) (hx : cXs P ts caps.toList=some cs)
    (hn : Into N w0 ok0 (st.set d (.fn f (rds st.env cs))) next) : o.wpIn (FR rd) 0 P a w next Q:=by
  have hr:=rds_ok g hx
  refine ok_val g hd hN (v:=.func (.func f) #[] (caps.map a.eval)) ?_ ?_ hn
  · simp [execOp,ho,Instr.makeFunc]
  · simp only [LRep]
    exact ⟨_,rfl,by simpa using hr⟩

/-! ### cuts -/
theorem bndX_ok (g : Gam N w0 ok0 st ok ρ a w) {t : TypeId} {x : Operand} {x' : X} (hx : cX P t x=some x') {m r : Nat} (h : bndL m (x'.rd st.env)=some r) :
    r≤m∧∃ k n,a.eval x=.int k n∧0≤n∧n≤(m : Int)∧n.toNat=r:=by
  have hr:=rd_ok g hx
  generalize x'.rd st.env=l at h hr
  unfold bndL at h
  split at h
  · split at h
    · rename_i k n hc
      obtain rfl:=Option.some.inj h
      exact ⟨by omega,k,n,lv_int hr,hc.1,hc.2,rfl⟩
    · cases h
  · cases h
theorem run_bound {k : IntKind} {n : Int} {y : Nat} (h0 : 0≤n) (h1 : n≤(y : Int)) (c : BoundsCode) : (Instr.sliceBound (.int k n) y c).run P w=.ok n.toNat w:=by
  simp [Instr.sliceBound,asIntOf,h0,h1]

theorem bnd_cases (g : Gam N w0 ok0 st ok ρ a w) {t : TypeId} {x : Option Operand} {x' : Option X} (hx : cOX P t x=some x') {dflt m r : Nat} (h : bndX st.env dflt x' (some m)=some r) :
    (x=none∧r=dflt)∨∃ y k n,x=some y∧a.eval y=.int k n∧0≤n∧n≤(m : Int)∧n.toNat=r:=by
  cases x with
  | none =>
    simp only [cOX,Option.some.injEq] at hx
    subst hx
    simp only [bndX,Option.some.injEq] at h
    exact .inl ⟨rfl,h.symm⟩
  | some y =>
    simp only [cOX] at hx
    cases hy : cX P t y with
    | none => rw [hy] at hx; cases hx
    | some y' =>
      rw [hy] at hx
      obtain rfl:=Option.some.inj hx
      obtain ⟨_,k,n,e1,h2,h3,h4⟩:=bndX_ok g hy h
      exact .inr ⟨y,k,n,rfl,e1,h2,h3,h4⟩

theorem bounds2 (g : Gam N w0 ok0 st ok ρ a w) {t : TypeId} {lo hi : Option Operand} {lo' hi' : Option X} (hlo : cOX P t lo=some lo') (hhi : cOX P t hi=some hi') {len h l : Nat}
    (eh : bndX st.env len hi' (some len)=some h) (el : bndX st.env 0 lo' (some h)=some l) (isS : Bool) (cap : Nat) (hcap : len≤cap) :
    l≤h∧h≤len∧(Instr.sliceBounds isS len cap (lo.map a.eval) (hi.map a.eval) none).run P w=.ok (l,h,cap) w:=by
  rcases bnd_cases g hhi eh with ⟨rfl,rfl⟩ | ⟨y,k,n,rfl,e1,h1,h2,rfl⟩<;>rcases bnd_cases g hlo el with ⟨rfl,rfl⟩ | ⟨z,k',n',rfl,e2,h1',h2',rfl⟩
  · exact ⟨Nat.zero_le _,Nat.le_refl _,by simp [Instr.sliceBounds]⟩
  · refine ⟨by omega, Nat.le_refl _, ?_⟩
    simp [Instr.sliceBounds,e2,run_bound h1' h2']
  · refine ⟨Nat.zero_le _, by omega, ?_⟩
    have h3 : n≤(cap : Int):=by omega
    simp [Instr.sliceBounds,e1,run_bound h1 h3]
  · refine ⟨by omega, by omega, ?_⟩
    have h3 : n≤(cap : Int):=by omega
    simp [Instr.sliceBounds,e1,e2,run_bound h1 h3,run_bound h1' h2']

theorem bounds3 (g : Gam N w0 ok0 st ok ρ a w) {t : TypeId} {lo hi : Option Operand} {mx : Operand} {lo' hi' : Option X} {mx' : X} (hlo : cOX P t lo=some lo') (hhi : cOX P t hi=some hi') (hmx : cX P t mx=some mx') {len m h l : Nat}
    (em : bndL len (mx'.rd st.env)=some m) (eh : bndX st.env 0 hi' (some m)=some h) (el : bndX st.env 0 lo' (some h)=some l) (hne : hi≠none) (isS : Bool) (cap : Nat) (hcap : len≤cap) :
    l≤h∧h≤m∧m≤len∧(Instr.sliceBounds isS len cap (lo.map a.eval) (hi.map a.eval) (some (a.eval mx))).run P w=.ok (l,h,m) w:=by
  obtain ⟨hm,k0,n0,e0,h10,h20,rfl⟩:=bndX_ok g hmx em
  have h3 : n0≤(cap : Int):=by omega
  rcases bnd_cases g hhi eh with ⟨rfl,rfl⟩ | ⟨y,k,n,rfl,e1,h1,h2,rfl⟩
  · exact absurd rfl hne
  · rcases bnd_cases g hlo el with ⟨rfl, rfl⟩ | ⟨z, k', n', rfl, e2, h1', h2', rfl⟩
    · refine ⟨Nat.zero_le _, by omega, hm, ?_⟩
      simp [Instr.sliceBounds,e0,e1,run_bound h10 h3,run_bound h1 h2]
    · refine ⟨by omega, by omega, hm, ?_⟩
      simp [Instr.sliceBounds,e0,e1,e2,run_bound h10 h3,run_bound h1 h2,run_bound h1' h2']

theorem cut_rep {fl' : Fl} {sz : Nat} {rows : List (List TV)} {ad : Option Addr} {cap l h m : Nat} (h6 : rows=[]∨∃ b o',ad=some ⟨b,o',none⟩∧ok b∧RowsRep w ok sz b rows o') (hl : l≤h) (hh : h≤rows.length) (hm : h≤m) (hmc : m≤cap) (hcap : cap≤maxLen)
    (ht : ∀ e,fl'=.tight e→m=h) : TRep w ok (.sl fl' sz ((rows.drop l).take (h - l))) (.slice (if m=l then ad else ad.map (·.add (l * sz))) (h - l) (m - l)):=by
  simp only [TRep]
  refine ⟨_,_,_,rfl,by simp; omega,by omega,by omega,fun e he => by have:=ht e he; omega,?_⟩
  rcases h6 with rfl | ⟨b,o',rfl,hb,hr⟩
  · exact .inl (by simp)
  · by_cases hml : m = l
    · have : h = l := by omega
      subst this
      exact .inl (by simp)
    · rw [if_neg hml]
      exact .inr ⟨b,o'+l * sz,by simp [addr_add],hb,(hr.drop l).take (h - l)⟩

theorem op_slice (g : Gam N w0 ok0 st ok ρ a w) {d : Nat} (hd : o.dst=some d) (hN : N.may d) {t e : TypeId} {x : Operand} {x' : X} {lo hi mx : Option Operand} {lo' hi' mx' : Option X} {sz : Nat} (ho : o.op=.slice t x lo hi mx)
    (hx : cX P t x=some x') (hlo : cOX P t lo=some lo') (hhi : cOX P t hi=some hi') (hmx : cOX P t mx=some mx') (hu : P.underlying t=some (.slice e)) (hs : size? P e=some sz) (hne : mx≠none→hi≠none)
    (he : setM st d (sliceL st.hp e sz st.env lo' hi' mx' (x'.rd st.env))=some st') (hn : Into N w0 ok0 st' next) : o.wpIn (FR rd) 0 P a w next Q:=by
  obtain ⟨r,hr,rfl⟩:=setM_some he
  have h1:=rd_ok g hx
  generalize hl1 : x'.rd st.env=l1 at hr h1
  unfold sliceL at hr
  split at hr
  · rename_i fl sz' rows
    split at hr
    · rename_i hsz
      subst hsz
      obtain rfl : mx=none:=by
        cases mx with
        | none => rfl
        | some m => simp only [cOX] at hmx; cases hm : cX P t m<;>rw [hm] at hmx<;>cases hmx
      obtain ⟨ad,cap,e1,h3,h4,h5,h6⟩:=sl_form h1
      simp only [cutV2] at hr
      generalize eh : bndX st.env rows.length hi' (some rows.length)=h at hr
      generalize el : bndX st.env 0 lo' h=l at hr
      unfold cutV at hr
      split at hr
      · rename_i h' l'
        obtain rfl:=Option.some.inj hr
        obtain ⟨b1,b2,b3⟩:=bounds2 (P:=P) g hlo hhi eh el true cap h3
        refine ok_val g hd hN (v:=.slice (if cap=l' then ad else ad.map (·.add (l' * sz'))) (h' - l') (cap - l')) ?_ (lrep_v (cut_rep (m:=cap) h6 b1 b2 (by omega) (Nat.le_refl _) h4 ?_)) hn
        · simp [execOp,ho,e1,Instr.sliceAt,Instr.slice,run_underlying hu,b3,run_sizeOf w hs]
        · intro e' he'
          unfold flOf at he'
          split at he'
          · split at he'
            · rename_i hdec
              have:=of_decide_eq_true hdec
              have:=h5 _ rfl
              omega
            · cases he'
          · cases he'
      · cases hr
    · cases hr
  · rename_i mm fl sz' rows
    split at hr
    · rename_i hsz
      subst hsz
      obtain ⟨m,rfl,hm⟩ : ∃ m,mx=some m∧cX P t m=some mm:=by
        cases mx with
        | none => cases hmx
        | some m =>
          simp only [cOX] at hmx
          cases hm : cX P t m with
          | none => rw [hm] at hmx; cases hmx
          | some m' => rw [hm] at hmx; simp only [Option.map_some,Option.some.injEq] at hmx; exact ⟨m,rfl,hmx ▸ hm⟩
      obtain ⟨ad,cap,e1,h3,h4,h5,h6⟩:=sl_form h1
      simp only [cutV3] at hr
      generalize em : bndX st.env 0 (some mm) (some rows.length)=m' at hr
      generalize eh : bndX st.env 0 hi' m'=h at hr
      generalize el : bndX st.env 0 lo' h=l at hr
      unfold cutM at hr
      split at hr
      · rename_i mv hv lv
        obtain rfl:=Option.some.inj hr
        obtain ⟨b1,b2,b3,b4⟩:=bounds3 (P:=P) g hlo hhi hm em eh el (hne (by simp)) true cap h3
        refine ok_val g hd hN (v:=.slice (if mv=lv then ad else ad.map (·.add (lv * sz'))) (hv - lv) (mv - lv)) ?_ (lrep_v (cut_rep (m:=mv) h6 b1 (by omega) b2 (by omega) h4 ?_)) hn
        · simp [execOp,ho,e1,Instr.sliceAt,Instr.slice,run_underlying hu,b4,run_sizeOf w hs]
        · intro e' he'
          split at he'
          · omega
          · cases he'
      · cases hr
    · cases hr
  · rename_i id off len
    obtain rfl : mx=none:=by
      cases mx with
      | none => rfl
      | some m => simp only [cOX] at hmx; cases hm : cX P t m<;>rw [hm] at hmx<;>cases hmx
    unfold cutO at hr
    split at hr
    · rename_i fz e' sz' rows hid
      split at hr
      · rename_i hsz
        subst hsz
        simp only [LRep,hid,SRep] at h1
        obtain ⟨ad,cap,e1,h3,h4,h5,h6⟩:=h1
        generalize eh : bndX st.env len hi' (some len)=h at hr
        generalize el : bndX st.env 0 lo' h=l at hr
        unfold cutS at hr
        split at hr
        · rename_i h' l'
          obtain rfl:=Option.some.inj hr
          obtain ⟨b1,b2,b3⟩:=bounds2 (P:=P) g hlo hhi eh el true cap h4
          refine ok_val g hd hN (v:=.slice (if cap=l' then ad else ad.map (·.add (l' * sz'))) (h' - l') (cap - l')) ?_ ?_ hn
          · simp [execOp,ho,e1,Instr.sliceAt,Instr.slice,run_underlying hu,b3,run_sizeOf w hs]
          · simp only [LRep, hid, SRep]
            refine ⟨_,_,rfl,by omega,by omega,by omega,?_⟩
            rcases h6 with ⟨r1,r2,r3⟩ | ⟨b,K,r1,r2,r3⟩
            · exact .inl ⟨r1,by omega,by omega⟩
            · refine .inr ⟨b, K, r1, by omega, ?_⟩
              by_cases hc : cap=l'
              · by_cases hz : l' = 0
                · subst hz
                  rw [if_pos hc]
                  rcases r3 with r3 | ⟨r3,r4⟩
                  · exact .inl (by simpa using r3)
                  · exact .inr ⟨by omega,by omega⟩
                · exact .inr ⟨by omega,by omega⟩
              · rw [if_neg hc]
                rcases r3 with rfl | ⟨r3,r4⟩
                · exact .inl (by simp [addr_add,Nat.add_mul])
                · exfalso; omega
        · cases hr
      · cases hr
    · cases hr
  · cases hr
end
end Go.Proofs.Ytcecojdeljbjoaa.Sx
namespace Go.Proofs.Ytcecojdeljbjoaa.Sx
open Go Go.RowKit

def okPlus (ok : Nat→Prop) (ρ : Rho) (h : Hp) (is : List Nat) : Nat→Prop:=fun b => ok b∨∃ i∈is,∃ o K,h i=some o∧o.live=true∧ρ i=some (b,K)

section
variable {P : Program} {N : Rm} {w0 : World} {ok0 : Nat→Prop} {st st' : St} {ok : Nat→Prop} {ρ : Rho} {a : Act} {w w' : World}
  {next : Act→World→Prop} {Q : Exit→Act→World→Prop} {o : Oper} {rd : Option Nat}

theorem okPlus_mono {h : Hp} {is js : List Nat} (hs : ∀ i∈is,i∈js) : Same w w (okPlus ok ρ h is) (okPlus ok ρ h js):=fun b hb => ⟨rfl,hb.imp id fun ⟨i,hi,r⟩ => ⟨i,hs i hi,r⟩⟩
theorem okPlus_old {h : Hp} {is : List Nat} : Same w w ok (okPlus ok ρ h is):=fun b hb => ⟨rfl,.inl hb⟩

theorem Gam.frozen (g : Gam N w0 ok0 st ok ρ a w) (is : List Nat) : Gam N w0 ok0 { st with hp:=Sx.freezeAll st.hp is } (okPlus ok ρ st.hp is) ρ a w:=by
  refine (g.freezeAll is).grow (fun b hb => .inl hb) ?_ ?_ ?_
  · intro b hb hlt
    rcases hb with hb | ⟨i,_,ob,K,h1,h2,h3⟩
    · exact g.old b hb hlt
    · have := (g.fresh i ob b K h1 h2 h3).1
      omega
  · intro b hb
    rcases hb with hb | ⟨i,hi,ob,K,h1,h2,h3⟩
    · exact (g.freezeAll is).free b hb
    · refine ⟨(g.fresh i ob b K h1 h2 h3).2, fun j p K' hj hown hr => ?_⟩
      have hj' : Sx.freezeAll st.hp is j=some p:=hj
      have hji : j∉is:=fun hm => by
        have:=freezeAll_mem is st.hp j hm p hj'
        rw [this] at hown
        cases hown
      rcases freezeAll_get is st.hp j with e | ⟨q,_,e⟩
      · have hq : st.hp j = some p := by rw [← e]; exact hj'
        have hl : p.live=true:=by cases p<;>simp_all [Ob.own,Ob.live]
        have:=g.inj i j ob p b K K' h1 hq h2 hl h3 hr
        exact hji (this ▸ hi)
      · rw [e] at hj'
        rw [← Option.some.inj hj',Ob.own_freeze] at hown
        cases hown
  · intro b p hp hw hb
    obtain ⟨_,_,h3,h4⟩:=g.res b p hp
    rcases hb with hb | ⟨i,hi,ob,K,k1,k2,k3⟩
    · exact h3 hw hb
    · exact h4 i ob K k1 (bars_all hw k2) k3

theorem freezeAll_none {h : Hp} {is : List Nat} {k : Nat} (hk : freezeAll h is k=none) : h k=none:=by
  rcases freezeAll_get is h k with e | ⟨o,_,e⟩
  · rw [← e]; exact hk
  · rw [e] at hk; cases hk

/-! ### values as shared trees -/
theorem solidS_ok (g : Gam N w0 ok0 st ok ρ a w) {id off len : Nat} {t : TV} {is : List Nat} (h : solidS off len id (st.hp id)=some (t,is)) {x : Value} (hx : SRep ρ id off len x (st.hp id)) :
    TRep w (okPlus ok ρ st.hp is) t x∧x.oneCell'=true:=by
  unfold solidS at h
  split at h
  · rename_i fz e sz rows hid
    simp only [Option.some.injEq,Prod.mk.injEq] at h
    obtain ⟨rfl,rfl⟩:=h
    rw [hid] at hx
    simp only [SRep] at hx
    obtain ⟨ad,cap,rfl,h3,h4,h5,h6⟩:=hx
    refine ⟨?_,rfl⟩
    simp only [TRep]
    refine ⟨ad,len,cap,rfl,by simp; omega,h4,h5,by simp,?_⟩
    by_cases hz : len=0
    · left; simp [hz]
    · rcases h6 with ⟨_, h7, _⟩ | ⟨b, K, h7, h8, h9⟩
      · omega
      · rcases h9 with rfl | ⟨h9, _⟩
        · rcases g.obj id _ hid with ⟨h10, _⟩ | ⟨b', K', cur, h10, h11, h12, h13, h14, h15⟩
          · rw [h7] at h10; cases h10
          · rw [h7] at h10
            obtain ⟨rfl,rfl⟩ : b=b'∧K=K':=by simpa using h10
            refine .inr ⟨b,off * sz,rfl,.inr ⟨id,by simp,_,K,hid,rfl,h7⟩,?_⟩
            have:=((h15.drop off).take len).at (okPlus_old (ρ:=ρ) (h:=st.hp) (is:=[id])) rfl
            simpa using this
        · omega
  · cases h

theorem solidCell_ok (g : Gam N w0 ok0 st ok ρ a w) {l : LV} {t : TV} {is : List Nat} (h : solidCell st.hp l=some (t,is)) {x : Value} (hx : LRep w ok ρ st.hp l x) :
    TRep w (okPlus ok ρ st.hp is) t x∧x.oneCell'=true:=by
  have plain : ∀ {t : TV},TRep w ok t x→(∀ cs,t≠.agg cs)→(∀ cs,t≠.tup cs)→TRep w (okPlus ok ρ st.hp []) t x∧x.oneCell'=true:=fun h h1 h2 => ⟨h.to okPlus_old,(one_of_trep h h1 h2).1⟩
  unfold solidCell at h
  split at h
  case h_8 => simp only [LRep] at hx; exact solidS_ok g h hx
  case h_9 =>
    simp only [Option.some.injEq,Prod.mk.injEq] at h
    obtain ⟨rfl,rfl⟩:=h
    simp only [LRep] at hx
    obtain ⟨b,rfl⟩:=hx.shape
    exact ⟨by simp only [TRep]; exact ⟨rfl,rfl⟩,rfl⟩
  case h_11 => cases h
  case h_1 =>
    rename_i fl sz rows
    simp only [Option.some.injEq,Prod.mk.injEq] at h
    obtain ⟨rfl,rfl⟩:=h
    obtain ⟨ad,cap,e1,h3,h4,h5,h6⟩:=sl_form hx
    have : TRep w ok (.sl .shared sz rows) x:=by
      simp only [TRep]
      exact ⟨ad,_,cap,e1,rfl,h3,h4,by simp,h6⟩
    exact plain this (by simp) (by simp)
  all_goals
    simp only [Option.some.injEq,Prod.mk.injEq] at h
    obtain ⟨rfl,rfl⟩:=h
    exact plain (by simpa only [LRep] using hx) (by simp) (by simp)

theorem solidCells_ok (g : Gam N w0 ok0 st ok ρ a w) {one : Bool} : ∀ {ls : List LV} {ts : List TV} {is : List Nat},solidCells st.hp ls=some (ts,is)→∀ {xs : List Value},LReps w ok ρ st.hp one ls xs →
    ValsRep w (okPlus ok ρ st.hp is) true ts xs
  | [], ts, is, h, xs, hx => by
    simp only [solidCells,Option.some.injEq,Prod.mk.injEq] at h
    obtain ⟨rfl,rfl⟩:=h
    simp only [LReps] at hx
    subst hx
    simp only [ValsRep]
  | l :: ls, ts, is, h, xs, hx => by
    simp only [solidCells] at h
    cases h1 : solidCell st.hp l with
    | none => rw [h1] at h; cases h
    | some p =>
      obtain ⟨t,i⟩:=p
      cases h2 : solidCells st.hp ls with
      | none => rw [h1,h2] at h; cases h
      | some q =>
        obtain ⟨us,j⟩:=q
        rw [h1,h2] at h
        simp only [consS,Option.some.injEq,Prod.mk.injEq] at h
        obtain ⟨rfl,rfl⟩:=h
        simp only [LReps] at hx
        obtain ⟨v,r,rfl,_,h4,h5⟩:=hx
        have k1:=solidCell_ok g h1 h4
        have k2:=solidCells_ok g h2 h5
        simp only [ValsRep]
        exact ⟨v,r,rfl,fun _ => k1.2,k1.1.to (okPlus_mono (by simp +contextual)),k2.to (okPlus_mono (by simp +contextual))⟩

theorem solidP_ok (g : Gam N w0 ok0 st ok ρ a w) {id off : Nat} {t : TV} {is : List Nat} (h : solidP st.hp id off (st.hp id)=some (t,is)) {x : Value} (hx : PRep ρ id off x (st.hp id)) :
    TRep w (okPlus ok ρ st.hp is) t x:=by
  unfold solidP at h
  split at h
  · rename_i fz cs hid
    cases h1 : solidCells st.hp (cs.drop off) with
    | none => rw [h1] at h; cases h
    | some p =>
      obtain ⟨ts,js⟩:=p
      rw [h1] at h
      simp only [pcS,Option.some.injEq,Prod.mk.injEq] at h
      obtain ⟨rfl,rfl⟩:=h
      obtain ⟨b,K,h2,rfl⟩ : ∃ b K,ρ id=some (b,K)∧x=.pointer (some ⟨b,off,none⟩):=by rw [hid] at hx; exact hx
      obtain ⟨b',K',cur,ty,h3,h4,_,_,h5⟩:=g.obj id _ hid
      rw [h2] at h3
      obtain ⟨rfl,rfl⟩ : b=b'∧K=K':=by simpa using h3
      have h6:=solidCells_ok g h1 (xs:=(cur.toList.take cs.length).drop off) (one:=true) (LReps.of (by rw [List.length_drop,List.length_drop,h5.length]) fun i l hi => by
        rw [List.getElem?_drop] at hi ⊢
        exact h5.get _ _ hi)
      simp only [TRep]
      refine ⟨b,off,rfl,.inr ⟨id,by simp,_,K,hid,rfl,h2⟩,CellsRep.of fun j u hj => ?_⟩
      obtain ⟨v,k1,k2,k3⟩:=h6.get j u hj
      rw [List.getElem?_drop,List.getElem?_take] at k1
      split at k1
      · exact ⟨v,by rw [cell_of_row w b (off+j) cur ty (0,0) h4]; simpa using k1,k2 rfl,k3.to (okPlus_mono (by simp +contextual))⟩
      · cases k1
  · cases h

theorem solidCap_ok (g : Gam N w0 ok0 st ok ρ a w) {l : LV} {t : TV} {is : List Nat} (h : solidCap st.hp l=some (t,is)) {x : Value} (hx : LRep w ok ρ st.hp l x) :
    TRep w (okPlus ok ρ st.hp is) t x:=by
  unfold solidCap at h
  split at h
  · simp only [LRep] at hx; exact solidP_ok g h hx
  · exact (solidCell_ok g h hx).1
theorem solidCaps_ok (g : Gam N w0 ok0 st ok ρ a w) {one : Bool} : ∀ {ls : List LV} {ts : List TV} {is : List Nat},solidCaps st.hp ls=some (ts,is)→∀ {xs : List Value},LReps w ok ρ st.hp one ls xs →
    ValsRep w (okPlus ok ρ st.hp is) false ts xs
  | [], ts, is, h, xs, hx => by
    simp only [solidCaps,Option.some.injEq,Prod.mk.injEq] at h
    obtain ⟨rfl,rfl⟩:=h
    simp only [LReps] at hx
    subst hx
    simp only [ValsRep]
  | l :: ls, ts, is, h, xs, hx => by
    simp only [solidCaps] at h
    cases h1 : solidCap st.hp l with
    | none => rw [h1] at h; cases h
    | some p =>
      obtain ⟨t,i⟩:=p
      cases h2 : solidCaps st.hp ls with
      | none => rw [h1,h2] at h; cases h
      | some q =>
        obtain ⟨us,j⟩:=q
        rw [h1,h2] at h
        simp only [consS,Option.some.injEq,Prod.mk.injEq] at h
        obtain ⟨rfl,rfl⟩:=h
        simp only [LReps] at hx
        obtain ⟨v,r,rfl,_,h4,h5⟩:=hx
        have k1:=solidCap_ok g h1 h4
        have k2:=solidCaps_ok g h2 h5
        simp only [ValsRep]
        exact ⟨v,r,rfl,by simp,k1.to (okPlus_mono (by simp +contextual)),k2.to (okPlus_mono (by simp +contextual))⟩

theorem solidArg_ok (g : Gam N w0 ok0 st ok ρ a w) {l : LV} {t : TV} {is : List Nat} (h : solidArg st.hp l=some (t,is)) {x : Value} (hx : LRep w ok ρ st.hp l x) :
    TRep w (okPlus ok ρ st.hp is) t x:=by
  unfold solidArg at h
  split at h
  · rename_i cs
    cases h1 : solidCells st.hp cs with
    | none => rw [h1] at h; cases h
    | some p =>
      obtain ⟨ts,js⟩:=p
      rw [h1] at h
      simp only [aggS,Option.some.injEq,Prod.mk.injEq] at h
      obtain ⟨rfl,rfl⟩:=h
      obtain ⟨vs,rfl,h2⟩:=agg_form hx
      simp only [TRep]
      exact ⟨vs,rfl,solidCells_ok g h1 h2⟩
  · simp only [LRep] at hx; exact solidP_ok g h hx
  · rename_i f caps
    cases h1 : solidCaps st.hp caps with
    | none => rw [h1] at h; cases h
    | some p =>
      obtain ⟨ts,js⟩:=p
      rw [h1] at h
      simp only [fnS,Option.some.injEq,Prod.mk.injEq] at h
      obtain ⟨rfl,rfl⟩:=h
      simp only [LRep] at hx
      obtain ⟨vs,rfl,h2⟩:=hx
      simp only [TRep]
      exact ⟨vs,rfl,solidCaps_ok g h1 h2⟩
  · simp only [Option.some.injEq, Prod.mk.injEq] at h
    obtain ⟨rfl,rfl⟩:=h
    simp only [LRep] at hx
    exact hx.to okPlus_old
  · exact (solidCell_ok g h hx).1
theorem solidArgs_ok (g : Gam N w0 ok0 st ok ρ a w) {one : Bool} : ∀ {ls : List LV} {ts : List TV} {is : List Nat},solidArgs st.hp ls=some (ts,is)→∀ {xs : List Value},LReps w ok ρ st.hp one ls xs →
    ValsRep w (okPlus ok ρ st.hp is) false ts xs
  | [], ts, is, h, xs, hx => by
    simp only [solidArgs,Option.some.injEq,Prod.mk.injEq] at h
    obtain ⟨rfl,rfl⟩:=h
    simp only [LReps] at hx
    subst hx
    simp only [ValsRep]
  | l :: ls, ts, is, h, xs, hx => by
    simp only [solidArgs] at h
    cases h1 : solidArg st.hp l with
    | none => rw [h1] at h; cases h
    | some p =>
      obtain ⟨t,i⟩:=p
      cases h2 : solidArgs st.hp ls with
      | none => rw [h1,h2] at h; cases h
      | some q =>
        obtain ⟨us,j⟩:=q
        rw [h1,h2] at h
        simp only [consS,Option.some.injEq,Prod.mk.injEq] at h
        obtain ⟨rfl,rfl⟩:=h
        simp only [LReps] at hx
        obtain ⟨v,r,rfl,_,h4,h5⟩:=hx
        have k1:=solidArg_ok g h1 h4
        have k2:=solidArgs_ok g h2 h5
        simp only [ValsRep]
        exact ⟨v,r,rfl,by simp,k1.to (okPlus_mono (by simp +contextual)),k2.to (okPlus_mono (by simp +contextual))⟩

/-! ### rows,out of flat cells -/
def RowsAre (w : World) (ok : Nat→Prop) (sz : Nat) (rows : List (List TV)) (vs : List Value) : Prop :=
  vs.length=rows.length * sz∧(∀ v∈vs,v.oneCell'=true)∧∀ (i : Nat) (r : List TV),rows[i]?=some r→r.length=sz∧∀ (j : Nat) (t : TV),r[j]?=some t→∃ v,vs[i * sz+j]?=some v∧TRep w ok t v
theorem RowsAre.to {w w' : World} {ok ok' : Nat→Prop} (hs : Same w w' ok ok') {sz : Nat} {rows : List (List TV)} {vs : List Value} (h : RowsAre w ok sz rows vs) : RowsAre w' ok' sz rows vs :=
  ⟨h.1,h.2.1,fun i r hi => ⟨(h.2.2 i r hi).1,fun j t hj => by obtain ⟨v,h1,h2⟩:=(h.2.2 i r hi).2 j t hj; exact ⟨v,h1,h2.to hs⟩⟩⟩
theorem RowsAre.append {sz : Nat} {r1 r2 : List (List TV)} {v1 v2 : List Value} (h1 : RowsAre w ok sz r1 v1) (h2 : RowsAre w ok sz r2 v2) : RowsAre w ok sz (r1++r2) (v1++v2):=by
  refine ⟨by simp [h1.1,h2.1,Nat.add_mul],fun v hv => ?_,fun i r hi => ?_⟩
  · rcases List.mem_append.1 hv with hv | hv
    · exact h1.2.1 v hv
    · exact h2.2.1 v hv
  · by_cases hlt : i < r1.length
    · rw [List.getElem?_append_left hlt] at hi
      refine ⟨(h1.2.2 i r hi).1,fun j t hj => ?_⟩
      obtain ⟨v,k1,k2⟩:=(h1.2.2 i r hi).2 j t hj
      exact ⟨v,by rw [List.getElem?_append_left (List.getElem?_eq_some_iff.1 k1).1]; exact k1,k2⟩
    · rw [List.getElem?_append_right (by omega)] at hi
      refine ⟨(h2.2.2 _ r hi).1,fun j t hj => ?_⟩
      obtain ⟨v,k1,k2⟩:=(h2.2.2 _ r hi).2 j t hj
      refine ⟨v,?_,k2⟩
      have e : i * sz+j=v1.length+((i - r1.length) * sz+j):=by
        rw [h1.1,← Nat.add_assoc,← Nat.add_mul]
        congr 2
        omega
      rw [e,List.getElem?_append_right (by omega)]
      simpa using k1
theorem RowsAre.nil {sz : Nat} : RowsAre w ok sz [] []:=⟨by simp,by simp,by simp⟩
theorem RowsAre.one {r : List TV} {vs : List Value} (h : ValsRep w ok true r vs) : RowsAre w ok r.length [r] vs:=by
  refine ⟨by simp [h.length],fun v hv => ?_,fun i q hi => ?_⟩
  · obtain ⟨i, hi, rfl⟩ := List.mem_iff_getElem.1 hv
    have hl:=h.length
    obtain ⟨u,h1,h2,_⟩:=h.get i r[i] (by simp [List.getElem?_eq_getElem (show i < r.length by omega)])
    rw [List.getElem?_eq_getElem hi] at h1
    rw [Option.some.inj h1]
    exact h2 rfl
  · match i, hi with
    | 0, hi =>
      obtain rfl : r=q:=by simpa using hi
      refine ⟨rfl,fun j t hj => ?_⟩
      obtain ⟨v,h1,_,h3⟩:=h.get j t hj
      exact ⟨v,by simpa using h1,h3⟩
theorem RowsAre.take {sz : Nat} {rows : List (List TV)} {vs : List Value} (h : RowsAre w ok sz rows vs) (k : Nat) : RowsAre w ok sz (rows.take k) (vs.take (k * sz)):=by
  refine ⟨?_,fun v hv => h.2.1 v (List.mem_of_mem_take hv),fun i r hi => ?_⟩
  · rw [List.length_take, List.length_take, h.1]
    rcases Nat.le_total k rows.length with hk | hk
    · rw [Nat.min_eq_left hk,Nat.min_eq_left (Nat.mul_le_mul_right _ hk)]
    · rw [Nat.min_eq_right hk,Nat.min_eq_right (Nat.mul_le_mul_right _ hk)]
  · rw [List.getElem?_take] at hi
    split at hi
    · rename_i hik
      refine ⟨(h.2.2 i r hi).1,fun j t hj => ?_⟩
      obtain ⟨v,k1,k2⟩:=(h.2.2 i r hi).2 j t hj
      refine ⟨v,?_,k2⟩
      have hj' : j < sz:=by rw [← (h.2.2 i r hi).1]; exact (List.getElem?_eq_some_iff.1 hj).1
      have : i * sz+j < k * sz:=by
        have : (i+1) * sz≤k * sz:=Nat.mul_le_mul_right _ hik
        rw [Nat.add_mul,Nat.one_mul] at this
        omega
      rw [List.getElem?_take,if_pos this]
      exact k1
    · cases hi

theorem RowsAre.rep {sz b : Nat} {rows : List (List TV)} {vs : List Value} (h : RowsAre w ok sz rows vs) {cur : Array Value} {ty : TypeId} (hb : w.heap[b]?=some (.cells cur ty (0,0))) (hc : ∀ (j : Nat) (v : Value),vs[j]?=some v→cur[j]?=some v) :
    RowsRep w ok sz b rows 0 :=
  RowsRep.of fun i r hi => by
    refine ⟨(h.2.2 i r hi).1,CellsRep.of fun j t hj => ?_⟩
    obtain ⟨v,k1,k2⟩:=(h.2.2 i r hi).2 j t hj
    refine ⟨v,?_,h.2.1 v (List.mem_iff_getElem?.2 ⟨_,k1⟩),k2⟩
    rw [show 0+i * sz+j=i * sz+j by omega,cell_of_row w b _ cur ty (0,0) hb]
    exact hc _ v k1
theorem RowsRep.are {sz b o' : Nat} {rows : List (List TV)} (h : RowsRep w ok sz b rows o') : ∃ vs : List Value,RowsAre w ok sz rows vs∧∀ (j : Nat) (v : Value),vs[j]?=some v→w.cell? ⟨b,o'+j,none⟩=some v:=by
  obtain ⟨vs,h1,h2,h3,h4⟩:=h.flat
  exact ⟨vs,⟨h1,h3,fun i r hi => ⟨(h.get i r hi).1,h4 i r hi⟩⟩,h2⟩

theorem solidRows_ok (g : Gam N w0 ok0 st ok ρ a w) {e : TypeId} {sz : Nat} (hsz : 0 < sz) : ∀ {k : Nat} {parts : List (Nat × Operand)} {xs : List X},rowsFrom P e k parts=some xs →
    ∀ {rows : List (List TV)} {is : List Nat},solidRows st.hp st.env sz xs=some (rows,is) →
    ∃ us : List Value,us.length=rows.length∧parts.map (fun p => (p.1,a.eval p.2))=(us.zipIdx k).map (fun x => (x.2,x.1))∧(∀ u∈us,u.cells.size=sz)∧RowsAre w (okPlus ok ρ st.hp is) sz rows (us.flatMap (·.cells.toList))
  | k, [], xs, hx, rows, is, h => by
    simp only [rowsFrom,Option.some.injEq] at hx
    subst hx
    simp only [solidRows,Option.some.injEq,Prod.mk.injEq] at h
    obtain ⟨rfl,rfl⟩:=h
    exact ⟨[],rfl,rfl,by simp,RowsAre.nil⟩
  | k, (i, x) :: ps, xs, hx, rows, is, h => by
    simp only [rowsFrom] at hx
    split at hx
    · rename_i hik
      subst hik
      split at hx
      · rename_i p r hp hr
        obtain rfl:=Option.some.inj hx
        simp only [solidRows] at h
        cases h1 : solidCells st.hp (X.rd st.env p).cells with
        | none => rw [h1] at h; cases h
        | some q =>
          obtain ⟨ts,i1⟩:=q
          cases h2 : solidRows st.hp st.env sz r with
          | none => rw [h1,h2] at h; cases h
          | some q =>
            obtain ⟨rs,i2⟩:=q
            rw [h1,h2] at h
            simp only [consR] at h
            split at h
            · rename_i hlen
              simp only [Option.some.injEq,Prod.mk.injEq] at h
              obtain ⟨rfl,rfl⟩:=h
              have hne : (X.rd st.env p).cells≠[]:=fun e => by
                rw [e] at h1
                simp only [solidCells,Option.some.injEq,Prod.mk.injEq] at h1
                rw [← h1.1] at hlen
                simp at hlen
                omega
              have k1:=solidCells_ok g h1 (cells_ok (rd_ok g hp) hne)
              obtain ⟨us,j1,j2,j3,j4⟩:=solidRows_ok g hsz hr h2
              have hl:=k1.length
              refine ⟨a.eval x :: us,by simp [j1],by simp [j2],?_,?_⟩
              · intro u hu
                rcases List.mem_cons.1 hu with rfl | hu
                · rw [← hlen,← hl]; simp
                · exact j3 u hu
              · have m1 : RowsAre w (okPlus ok ρ st.hp (i1 ++ i2)) sz [ts] (a.eval x).cells.toList := by rw [← hlen]; exact (RowsAre.one k1).to (okPlus_mono (by simp +contextual))
                exact m1.append (j4.to (okPlus_mono (by simp +contextual)))
            · cases h
      · cases hx
    · cases hx

theorem ok_arr (g : Gam N w0 ok0 st ok ρ a w) {d : Nat} (hd : o.dst=some d) (hN : N.may d) {id : Nat} {e : TypeId} {sz n : Nat} {rows : List (List TV)} (hm : mkO d id (.arr false e sz rows) (.s id 0 n) st=some st') {w1 : World} {cur : Array Value} {cap : Nat}
    (hrun : (execOp a.eval o).run P w=.ok (.value (.slice (some ⟨w.heap.size,0,none⟩) n cap)) (w1.alloc (.cells cur e))) (hw1 : w1=w∨w1=w.drew)
    {vs : List Value} (hrows : RowsAre w ok sz rows vs) (hcur : ∀ (j : Nat) (v : Value),vs[j]?=some v→cur[j]?=some v) (hsz : cur.size=cap * sz) (hcap : cap≤maxLen) (hn : n≤rows.length) (hle : rows.length≤cap)
    (hnext : Into N w0 ok0 st' next) : o.wpIn (FR rd) 0 P a w next Q:=by
  have hid:=(mkO_some hm).1
  have hs : Same w (w1.alloc (.cells cur e)) ok ok:=by
    rcases hw1 with h | h<;>rw [h]
    · exact same_alloc g _
    · exact same_drew_alloc g _
  have hb : (w1.alloc (.cells cur e)).heap[w.heap.size]?=some (.cells cur e (0,0)):=by
    rcases hw1 with h | h<;>rw [h]
    · exact heap_alloc_new w _
    · exact heap_alloc_new w.drew _
  refine ok_new g hd hN hm cap hrun hw1 (.inr ⟨w.heap.size,cap,cur,upd_same _ _ _,hb,hsz,hcap,hle,(hrows.to hs).rep hb hcur⟩) ?_ hnext
  simp only [LRep,SRep,upd_same]
  exact ⟨_,cap,rfl,by omega,by omega,hcap,.inr ⟨w.heap.size,cap,rfl,by omega,.inl (by simp)⟩⟩

theorem tightR_some {lo : Nat} {xs : List X} {rows : List (List TV)} {is : List Nat} : ∃ rows',tightR lo xs (some (rows,is))=some (rows',is)∧rows'.length=rows.length∧(rows'=rows∨∃ e2 z t,xs=[.c (.v (.sl (.tight e2) z []))]∧rows=[[t]]∧rows'=[[.sl (.tight e2) z []]]):=by
  unfold tightR
  split
  · exact ⟨rows,rfl,rfl,.inl rfl⟩
  · generalize hq : (some (rows, is) : Option (List (List TV) × List Nat)) = q
    unfold tightV
    split
    · rename_i e2 z t is'
      obtain ⟨rfl,rfl⟩ : rows=[[t]]∧is=is':=by simpa using hq
      exact ⟨_,rfl,rfl,.inr ⟨e2,z,t,rfl,rfl,rfl⟩⟩
    · exact ⟨rows,hq.symm,rfl,.inl rfl⟩
theorem tightR_ok (g : Gam N w0 ok0 st ok ρ a w) {e : TypeId} {sz : Nat} (hsz : 0 < sz) {parts : List (Nat × Operand)} {xs : List X} (hx : rowsFrom P e 0 parts=some xs) {rows rows' : List (List TV)} {is : List Nat} (h : solidRows st.hp st.env sz xs=some (rows,is))
    (h' : rows'=rows∨∃ e2 z t,xs=[.c (.v (.sl (.tight e2) z []))]∧rows=[[t]]∧rows'=[[.sl (.tight e2) z []]]) :
    ∃ us : List Value,us.length=rows'.length∧parts.map (fun p => (p.1,a.eval p.2))=(us.zipIdx 0).map (fun x => (x.2,x.1))∧(∀ u∈us,u.cells.size=sz)∧RowsAre w (okPlus ok ρ st.hp is) sz rows' (us.flatMap (·.cells.toList)):=by
  obtain ⟨us,h1,h2,h3,h4⟩:=solidRows_ok g hsz hx h
  rcases h' with rfl | ⟨e2,z,t,rfl,rfl,rfl⟩
  · exact ⟨us,h1,h2,h3,h4⟩
  · refine ⟨us, h1, h2, h3, ?_⟩
    obtain ⟨u,rfl⟩:=List.length_eq_one_iff.1 h1
    have hp : ∃ x,parts=[(0,x)]∧cX P e x=some (.c (.v (.sl (.tight e2) z []))):=by
      cases parts with
      | nil => simp [rowsFrom] at hx
      | cons p ps =>
        obtain ⟨i,x⟩:=p
        simp only [rowsFrom] at hx
        split at hx
        · rename_i hi0
          split at hx
          · rename_i p' r hp hr
            simp only [Option.some.injEq,List.cons.injEq] at hx
            obtain ⟨rfl,rfl⟩:=hx
            cases ps with
            | nil => exact ⟨x,by rw [hi0],hp⟩
            | cons p2 ps =>
              obtain ⟨i2,x2⟩:=p2
              simp only [rowsFrom] at hr
              split at hr
              · split at hr
                · cases hr
                · cases hr
              · cases hr
          · cases hx
        · cases hx
    obtain ⟨x,rfl,hcx⟩:=hp
    have hr:=rd_ok g hcx
    have hu : a.eval x=u:=by simpa using h2
    rw [hu] at hr
    have hr : TRep w ok (.sl (.tight e2) z []) u:=by simpa only [X.rd,LRep] using hr
    have hsz1 : sz=1:=by
      have:=(h4.2.2 0 [t] rfl).1
      simpa using this.symm
    subst hsz1
    have hsl : ∃ ad n c,u=.slice ad n c:=by
      obtain ⟨ad,cap,e1,_⟩:=sl_form (st:=st) (ρ:=ρ) (w:=w) (ok:=ok) (by simpa only [LRep] using hr)
      exact ⟨ad,_,cap,e1⟩
    obtain ⟨ad,n,c,hsl⟩:=hsl
    have hcells : u.cells.toList=[u]:=by rw [hsl]; rfl
    show RowsAre w (okPlus ok ρ st.hp is) 1 [[.sl (.tight e2) z []]] ([u].flatMap (·.cells.toList))
    have hf : [u].flatMap (·.cells.toList)=[u]:=by simp [hcells]
    rw [hf]
    refine RowsAre.one (r:=[.sl (.tight e2) z []]) ?_
    simp only [ValsRep]
    exact ⟨u,[],rfl,fun _ => by rw [hsl]; rfl,hr.to okPlus_old,rfl⟩
theorem op_bslice (g : Gam N w0 ok0 st ok ρ a w) {d : Nat} (hd : o.dst=some d) (hN : N.may d) {t e : TypeId} {len sz lo : Nat} {parts : Array (Nat × Operand)} {xs : List X} (ho : o.op=.buildSlice t len parts)
    (hx : rowsFrom P e 0 parts.toList=some xs) (hu : P.underlying t=some (.slice e)) (hs : size? P e=some sz) {zs : List TV} (hz : zeroT P e=some zs) (hlen : xs.length=len) (hsm : len * sz≤16777216) (hsz : 0 < sz)
    (he : bsliceK lo st d e sz (tightR lo xs (solidRows st.hp st.env sz xs))=some st') (hn : Into N w0 ok0 st' next) : o.wpIn (FR rd) 0 P a w next Q:=by
  cases hr : solidRows st.hp st.env sz xs with
  | none =>
    rw [hr] at he
    have : tightR lo xs none=none:=by
      unfold tightR; split
      · rfl
      · unfold tightV; split
        · rename_i h; cases h
        · rfl
    rw [this] at he; cases he
  | some q =>
    obtain ⟨rows0,is⟩:=q
    rw [hr] at he
    obtain ⟨rows,k1,k2,k3⟩:=tightR_some (lo:=lo) (xs:=xs) (rows:=rows0) (is:=is)
    rw [k1] at he
    simp only [bsliceK] at he
    obtain ⟨us,h1,h2,h3,h4⟩:=tightR_ok g hsz hx hr k3
    have hrl : rows.length=xs.length:=by
      rw [k2]
      clear he h1 h2 h3 h4 hx hlen k1 k2 k3 rows us
      revert hr
      generalize rows0=rows
      intro hr
      induction xs generalizing rows is with
      | nil => simp only [solidRows,Option.some.injEq,Prod.mk.injEq] at hr; rw [← hr.1]; rfl
      | cons x xs ih =>
        simp only [solidRows] at hr
        unfold consR at hr
        split at hr
        · split at hr
          · rename_i r i rs js _ hrs _
            simp only [Option.some.injEq,Prod.mk.injEq] at hr
            rw [← hr.1,List.length_cons,List.length_cons,ih js rs hrs]
          · cases hr
        · cases hr
    have hul : us.length=len:=by omega
    obtain ⟨z,hz1,_⟩:=zeroT_some hz
    have g':=g.frozen is
    have hfill : ∀ c0 : Array Value,c0.size=len * sz→Instr.fill (fun i => some (i * sz,sz)) c0 (parts.toList.map fun x => (x.1,a.eval x.2))=some (us.flatMap (·.cells.toList)).toArray:=by
      intro c0 hc0
      have:=fill_rows sz us 0 c0 h3 (by rw [hc0,Nat.zero_add,hul]; exact Nat.le_refl _)
      rw [h2,this]
      congr 1
      apply Array.ext'
      simp only [Nat.zero_mul,List.take_zero,List.nil_append,Nat.zero_add]
      rw [List.drop_eq_nil_of_le (by simp [hc0,hul]),List.append_nil]
    have hrun : (execOp a.eval o).run P w=.ok (.value (.slice (some ⟨w.heap.size,0,none⟩) len len)) (w.alloc (.cells (us.flatMap (·.cells.toList)).toArray e)):=by
      have hnot : ¬ (16777216 < len * sz):=by omega
      by_cases hzero : len * sz=0
      · have hf := hfill ((Array.range (len * sz)).map fun x => (#[] : Array Value)[x % (#[] : Array Value).size]!) (by simp)
        simp only [hzero] at hf
        simp [execOp,ho,Instr.buildSlice,run_underlying hu,run_sizeOf w hs,hzero,newRow] at hf ⊢
        simp [hf]
      · have hf := hfill ((Array.range (len * sz)).map fun x => z.cells[x % z.cells.size]!) (by simp)
        simp [execOp,ho,Instr.buildSlice,run_underlying hu,run_sizeOf w hs,hzero,newRow,hnot,run_zeroValue w hz1]
        rw [hf]
        simp
    refine ok_arr g' hd hN he (cap:=len) (cur:=(us.flatMap (·.cells.toList)).toArray) (w1:=w) (vs:=us.flatMap (·.cells.toList)) ?_ (.inl rfl) (h4.to (Same.refl _ _)) (by simp) ?_ ?_ (Nat.le_refl _) (by omega) hn
    · rw [hrun,hrl,hlen]
    · rw [List.size_toArray,h4.1,hrl,hlen]
    · have : len ≤ len * sz := Nat.le_mul_of_pos_right _ hsz
      simp only [maxLen]
      omega
end
end Go.Proofs.Ytcecojdeljbjoaa.Sx
namespace Go.Proofs.Ytcecojdeljbjoaa.Sx
open Go Go.RowKit
section
variable {P : Program} {N : Rm} {w0 : World} {ok0 : Nat→Prop} {st st' : St} {ok : Nat→Prop} {ρ : Rho} {a : Act} {w w' : World}
  {next : Act→World→Prop} {Q : Exit→Act→World→Prop} {o : Oper} {rd : Option Nat}

theorem setFrom_eq : ∀ (xs : List LV) (cs : List LV) (off : Nat),off+xs.length≤cs.length→setFrom cs off xs=cs.take off++xs++cs.drop (off+xs.length)
  | [],cs,off,_ => by simp [setFrom]
  | x :: xs, cs, off, h => by
    simp only [List.length_cons] at h
    have hk : off < cs.length:=by omega
    simp only [setFrom]
    rw [setFrom_eq xs (cs.set off x) (off+1) (by simp; omega)]
    have e1 : (cs.set off x).take (off+1)=cs.take off++[x]:=by
      rw [List.take_succ_eq_append_getElem (by simpa using hk),List.take_set_of_le (Nat.le_refl _)]
      simp
    have e2 : (cs.set off x).drop (off+1+xs.length)=cs.drop (off+(xs.length+1)):=by
      rw [List.drop_set_of_lt (by omega),show off+1+xs.length=off+(xs.length+1) by omega]
    rw [e1,e2]
    simp
theorem setFromT_eq : ∀ (xs : List TV) (cs : List TV) (off : Nat),off+xs.length≤cs.length→setFromT cs off xs=cs.take off++xs++cs.drop (off+xs.length)
  | [],cs,off,_ => by simp [setFromT]
  | x :: xs, cs, off, h => by
    simp only [List.length_cons] at h
    have hk : off < cs.length:=by omega
    simp only [setFromT]
    rw [setFromT_eq xs (cs.set off x) (off+1) (by simp; omega)]
    have e1 : (cs.set off x).take (off+1)=cs.take off++[x]:=by
      rw [List.take_succ_eq_append_getElem (by simpa using hk),List.take_set_of_le (Nat.le_refl _)]
      simp
    have e2 : (cs.set off x).drop (off+1+xs.length)=cs.drop (off+(xs.length+1)):=by
      rw [List.drop_set_of_lt (by omega),show off+1+xs.length=off+(xs.length+1) by omega]
    rw [e1,e2]
    simp

theorem LReps.splice {one : Bool} {cs xs : List LV} {vs us : List Value} (h : LReps w ok ρ st.hp one cs vs) (hx : LReps w ok ρ st.hp one xs us) {off : Nat} (hle : off+xs.length≤cs.length) :
    LReps w ok ρ st.hp one (setFrom cs off xs) (vs.take off++us++vs.drop (off+us.length)):=by
  have hl:=h.length
  have hu:=hx.length
  rw [setFrom_eq xs cs off hle]
  refine LReps.of (by simp; omega) fun i l hi => ?_
  by_cases h1 : i < off
  · rw [List.getElem?_append_left (by simp; omega), List.getElem?_append_left (by simp; omega), List.getElem?_take, if_pos h1] at hi
    obtain ⟨v,k1,k2⟩:=h.get i l hi
    exact ⟨v,by rw [List.getElem?_append_left (by simp; omega),List.getElem?_append_left (by simp; omega),List.getElem?_take,if_pos h1]; exact k1,k2⟩
  · by_cases h2 : i < off + xs.length
    · rw [List.getElem?_append_left (by simp; omega), List.getElem?_append_right (by simp; omega)] at hi
      have e : i - (cs.take off).length=i - off:=by simp; omega
      rw [e] at hi
      obtain ⟨v,k1,k2⟩:=hx.get _ l hi
      refine ⟨v,?_,k2⟩
      rw [List.getElem?_append_left (by simp; omega),List.getElem?_append_right (by simp; omega)]
      rw [show i - (vs.take off).length=i - off by simp; omega]
      exact k1
    · rw [List.getElem?_append_right (by simp; omega), List.getElem?_drop] at hi
      have e : off+xs.length+(i - (cs.take off++xs).length)=i:=by simp; omega
      rw [e] at hi
      obtain ⟨v,k1,k2⟩:=h.get i l hi
      refine ⟨v,?_,k2⟩
      rw [List.getElem?_append_right (by simp; omega),List.getElem?_drop]
      rw [show off+us.length+(i - (vs.take off++us).length)=i by simp; omega]
      exact k1

theorem LReps.one' {one : Bool} {cs : List LV} {vs : List Value} (h : LReps w ok ρ st.hp one cs vs) (ho : one=true) : ∀ v∈vs,v.oneCell'=true:=fun v hv => by
  obtain ⟨i,hi,rfl⟩:=List.mem_iff_getElem.1 hv
  have hl:=h.length
  obtain ⟨u,h1,h2,_⟩:=h.get i cs[i] (by simp [List.getElem?_eq_getElem (show i < cs.length by omega)])
  rw [List.getElem?_eq_getElem hi] at h1
  rw [Option.some.inj h1]
  exact h2 ho

theorem setRow_same (w : World) (b : Nat) (cur cur' : Array Value) (t : TypeId) (hg : w.heap[b]?=some (.cells cur t (0,0))) : (w.setRow b cur').heap[b]?=some (.cells cur' t (0,0)):=setRow_heap w b cur cur' t _ hg

theorem Into.skip {d : Option Tmp} (hd : d=none) (g : Gam N w0 ok0 st ok ρ a w) (hn : Into N w0 ok0 st next) : next (a.put d undef) w:=by subst hd; exact hn _ _ _ _ g

theorem freezeAll_not (is : List Nat) : ∀ (h : Hp) (j : Nat),j∉is→freezeAll h is j=h j:=by
  induction is with
  | nil => intro h j _; rfl
  | cons i is ih =>
    intro h j hj
    simp only [List.mem_cons,not_or] at hj
    simp only [freezeAll]
    rw [ih _ j hj.2,upd_ne _ _ hj.1]

theorem splice_get (cur us : List Value) (p k : Nat) (hle : p+us.length≤cur.length) :
    (cur.take p++us++cur.drop (p+us.length))[k]?=if p≤k∧k < p+us.length then us[k - p]? else cur[k]?:=by
  split
  · rename_i h
    rw [List.getElem?_append_left (by simp; omega),List.getElem?_append_right (by simp; omega)]
    congr 1
    simp
    omega
  · rename_i h
    by_cases h1 : k < p
    · rw [List.getElem?_append_left (by simp; omega),List.getElem?_append_left (by simp; omega),List.getElem?_take,if_pos h1]
    · rw [List.getElem?_append_right (by simp; omega), List.getElem?_drop]
      congr 1
      simp
      omega

theorem RowsRep.setRow {w : World} {ok : Nat→Prop} {sz b : Nat} {rows : List (List TV)} (h : RowsRep w ok sz b rows 0) {cur : Array Value} {ty : TypeId} (hg : w.heap[b]?=some (.cells cur ty (0,0))) (hcur : rows.length * sz≤cur.size)
    {row off : Nat} {r ts : List TV} {us : List Value} (hrow : rows[row]?=some r) (hle : off+ts.length≤r.length) (hts : ValsRep w ok true ts us) (hnot : ∀ c,ok c→c≠b) :
    RowsRep (w.setRow b (cur.toList.take (row * sz+off)++us++cur.toList.drop (row * sz+off+us.length)).toArray) ok sz b (rows.set row (setFromT r off ts)) 0:=by
  have hs : Same w (w.setRow b (cur.toList.take (row * sz+off)++us++cur.toList.drop (row * sz+off+us.length)).toArray) ok ok:=fun c hc => ⟨setRow_other w b c _ (hnot c hc),hc⟩
  have hus:=hts.length
  obtain ⟨hrl,hr⟩:=h.get row r hrow
  have hlt : row < rows.length:=(List.getElem?_eq_some_iff.1 hrow).1
  have hfit : row * sz+sz≤rows.length * sz:=by
    have : (row+1) * sz≤rows.length * sz:=Nat.mul_le_mul_right _ hlt
    rwa [Nat.add_mul,Nat.one_mul] at this
  have cell : ∀ k,(w.setRow b (cur.toList.take (row * sz+off)++us++cur.toList.drop (row * sz+off+us.length)).toArray).cell? ⟨b,k,none⟩=if row * sz+off≤k∧k < row * sz+off+us.length then us[k - (row * sz+off)]? else w.cell? ⟨b,k,none⟩:=by
    intro k
    rw [cell_of_row _ b k _ ty (0,0) (setRow_same w b cur _ ty hg),cell_of_row w b k cur ty (0,0) hg]
    simp only [List.getElem?_toArray]
    rw [splice_get cur.toList us (row * sz+off) k (by simp; omega)]
    simp
  refine RowsRep.of fun i q hi => ?_
  rw [List.getElem?_set] at hi
  split at hi
  · rename_i e
    subst e
    obtain rfl:=Option.some.inj hi
    have hset:=setFromT_eq ts r off hle
    refine ⟨by rw [hset]; simp; omega,CellsRep.of fun j t hj => ?_⟩
    rw [hset] at hj
    by_cases h1 : off≤j∧j < off+ts.length
    · rw [List.getElem?_append_left (by simp; omega), List.getElem?_append_right (by simp; omega)] at hj
      have e : j - (r.take off).length=j - off:=by simp; omega
      rw [e] at hj
      obtain ⟨v,k1,k2,k3⟩:=hts.get _ t hj
      refine ⟨v,?_,k2 rfl,k3.to hs⟩
      rw [cell,if_pos ⟨by omega,by omega⟩]
      rw [show 0+row * sz+j - (row * sz+off)=j - off by omega]
      exact k1
    · have hj' : r[j]?=some t:=by
        by_cases h2 : j < off
        · rw [List.getElem?_append_left (by simp; omega), List.getElem?_append_left (by simp; omega), List.getElem?_take, if_pos h2] at hj
          exact hj
        · rw [List.getElem?_append_right (by simp; omega), List.getElem?_drop] at hj
          rw [← hj]
          congr 1
          simp
          omega
      obtain ⟨v,k1,k2,k3⟩:=hr.get j t hj'
      refine ⟨v,?_,k2,k3.to hs⟩
      rw [cell,if_neg (by omega)]
      exact k1
  · rename_i hne
    obtain ⟨hql,hq⟩:=h.get i q hi
    refine ⟨hql,CellsRep.of fun j t hj => ?_⟩
    obtain ⟨v,k1,k2,k3⟩:=hq.get j t hj
    refine ⟨v,?_,k2,k3.to hs⟩
    have hjl : j < sz:=by rw [← hql]; exact (List.getElem?_eq_some_iff.1 hj).1
    have hfar : ¬ (row * sz+off≤0+i * sz+j∧0+i * sz+j < row * sz+off+us.length):=by
      rcases Nat.lt_or_gt_of_ne hne with hlt' | hlt'
      · have : (row + 1) * sz ≤ i * sz := Nat.mul_le_mul_right _ hlt'
        rw [Nat.add_mul,Nat.one_mul] at this
        omega
      · have : (i + 1) * sz ≤ row * sz := Nat.mul_le_mul_right _ hlt'
        rw [Nat.add_mul,Nat.one_mul] at this
        omega
    rw [cell,if_neg hfar]
    exact k1

theorem setFrom_length : ∀ (cs : List LV) (off : Nat) (xs : List LV),(setFrom cs off xs).length=cs.length
  | _,_,[] => rfl
  | cs, off, x :: xs => by
    show (setFrom (cs.set off x) (off+1) xs).length=_
    rw [setFrom_length,List.length_set]
theorem take_splice {α : Type} (A X : List α) {off k L : Nat} (hX : X.length=k) (hL : off+k≤L) (hA : L≤A.length) : (A.take off++X++A.drop (off+k)).take L=(A.take L).take off++X++(A.take L).drop (off+k):=by
  have h1 : (A.take off++X).length=off+k:=by rw [List.length_append,List.length_take,hX]; omega
  rw [List.take_append,h1,List.take_of_length_le (by omega),List.take_take,Nat.min_eq_left (by omega),List.drop_take]
theorem store_ok (g : Gam N w0 ok0 st ok ρ a w) (hd : o.dst=none) {t : TypeId} {ad x : Operand} {n : Nat} (ho : o.op=.store t ad x) (hs : size? P t=some (n+1)) {lp lx : LV} (h1 : LRep w ok ρ st.hp lp (a.eval ad)) (h2 : LRep w ok ρ st.hp lx (a.eval x))
    (he : storeL st (n+1) lx.cells lp=some st') (hn : Into N w0 ok0 st' next) : o.wpIn (FR rd) 0 P a w next Q:=by
  unfold storeL at he
  split at he
  · rename_i id off
    unfold storeP at he
    split at he
    · rename_i cs hid
      split at he
      · rename_i hc
        obtain ⟨hle,hlen⟩:=hc
        obtain rfl:=Option.some.inj he
        simp only [LRep,hid,PRep] at h1
        obtain ⟨b,K,h3,h4⟩:=h1
        obtain ⟨b',K',cur,ty,h5,h6,hKc,hlc,h7⟩:=g.obj id _ hid
        rw [h3] at h5
        obtain ⟨rfl,rfl⟩ : b=b'∧K=K':=by simpa using h5
        have hcells:=cells_ok h2 (fun e => by rw [e] at hlen; simp at hlen)
        have hcl : (a.eval x).cells.size=n+1:=by have:=hcells.length; simp at this; omega
        have hcurl : cs.length≤cur.size:=hlc
        have hrun:=run_storeVar (P:=P) w hs b off ty cur (a.eval x) h6 hcl (by omega) (hcells.one' rfl)
        have hspl:=h7.splice hcells (off:=off) (by omega)
        have hxl : (a.eval x).cells.toList.length=n+1:=by rw [Array.length_toList,hcl]
        rw [hxl,← take_splice cur.toList (a.eval x).cells.toList hxl hle (by rw [Array.length_toList]; exact hlc)] at hspl
        refine wp_skip' (w':=w.setRow b (cur.toList.take off++(a.eval x).cells.toList++cur.toList.drop (off+(n+1))).toArray) ?_ ?_
        · simp [execOp,ho,Instr.storeAt,h4,Instr.sureAddr,hrun]
        · refine Into.skip hd (g.write hid rfl (o' := .var false (setFrom cs off lx.cells)) rfl h3 (.inl ⟨_, _, _, _, rfl, rfl⟩) _ ?_) hn
          have hsl : (setFrom cs off lx.cells).length=cs.length:=setFrom_length cs off lx.cells
          have hsz : (cur.toList.take off++(a.eval x).cells.toList++cur.toList.drop (off+(n+1))).toArray.size=cur.size:=by
            simp only [List.size_toArray,List.length_append,List.length_take,List.length_drop,Array.length_toList,hcl]; omega
          refine ⟨b,K,_,ty,h3,setRow_same w b cur _ ty h6,by rw [hsz]; exact hKc,by rw [hsz,hsl]; exact hlc,?_⟩
          rw [hsl]
          have hs' : Same w (w.setRow b (cur.toList.take off++(a.eval x).cells.toList++cur.toList.drop (off+(n+1))).toArray) ok ok:=fun c hcok =>
            ⟨setRow_other w b c _ (fun e => (g.free c hcok).2 id _ K hid rfl (e ▸ h3)),hcok⟩
          exact hspl.to hs' (later_kind hid (.inl ⟨_,_,_,_,rfl,rfl⟩))
      · cases he
    · cases he
  · rename_i id row off
    cases hsol : solidCells st.hp lx.cells with
    | none => rw [hsol] at he; simp only [storeE] at he; cases he
    | some q =>
      obtain ⟨ts,is⟩:=q
      rw [hsol] at he
      unfold storeE at he
      split at he
      · rename_i ts' is' e sz rows heq hid
        simp only [Option.some.injEq,Prod.mk.injEq] at heq
        obtain ⟨rfl,rfl⟩:=heq
        cases hrow : rows[row]? with
        | none => rw [hrow] at he; cases he
        | some r =>
          rw [hrow] at he
          simp only [storeE2] at he
          split at he
          · rename_i hc
            obtain ⟨hle,hlen,hnot⟩:=hc
            obtain rfl:=Option.some.inj he
            simp only [LRep,hid,ERep] at h1
            obtain ⟨b,K,h3,h4⟩:=h1
            have hcells:=cells_ok h2 (fun e => by
              rw [e] at hsol
              simp only [solidCells,Option.some.injEq,Prod.mk.injEq] at hsol
              rw [← hsol.1] at hlen
              simp at hlen)
            have hts:=solidCells_ok g hsol hcells
            have hcl : (a.eval x).cells.size=n+1:=by have:=hts.length; simp at this; omega
            have g':=g.frozen is
            have hid' : freezeAll st.hp is id=some (.arr false e sz rows):=by rw [freezeAll_not is st.hp id hnot,hid]
            rcases g'.obj id _ hid' with ⟨h5,_⟩ | ⟨b',K',cur,h5,h6,h7,h8,h9,h10⟩
            · rw [h3] at h5; cases h5
            · rw [h3] at h5
              obtain ⟨rfl,rfl⟩ : b=b'∧K=K':=by simpa using h5
              have hnb : ∀ c,okPlus ok ρ st.hp is c→c≠b:=fun c hc e' => (g'.free c hc).2 id _ K hid' rfl (e' ▸ h3)
              have hrl:=(h10.get row r hrow).1
              have hlt : row < rows.length:=(List.getElem?_eq_some_iff.1 hrow).1
              have hcur : rows.length * sz≤cur.size:=by rw [h7]; exact Nat.mul_le_mul_right _ h9
              have hfit : row * sz+sz≤rows.length * sz:=by
                have : (row+1) * sz≤rows.length * sz:=Nat.mul_le_mul_right _ hlt
                rwa [Nat.add_mul,Nat.one_mul] at this
              have hrun:=run_storeVar (P:=P) w hs b (row * sz+off) e cur (a.eval x) h6 hcl (by omega) (hcells.one' rfl)
              have hrep:=h10.setRow h6 hcur hrow (off:=off) (ts:=ts) (us:=(a.eval x).cells.toList) (by omega) hts hnb
              rw [Array.length_toList,hcl] at hrep
              refine wp_skip' (w':=w.setRow b (cur.toList.take (row * sz+off)++(a.eval x).cells.toList++cur.toList.drop (row * sz+off+(n+1))).toArray) ?_ ?_
              · simp [execOp,ho,Instr.storeAt,h4,Instr.sureAddr,hrun]
              · refine Into.skip hd (g'.write hid' rfl (o' := .arr false e sz (rows.set row (setFromT r off ts))) rfl h3 (.inr ⟨_, _, _, _, _, _, _, rfl, rfl, by simp⟩) _ ?_) hn
                exact .inr ⟨b,K,_,h3,setRow_same w b cur _ e h6,by simp; omega,h8,by simpa using h9,hrep⟩
          · cases he
      · cases he
  · cases he
end
end Go.Proofs.Ytcecojdeljbjoaa.Sx
namespace Go.Proofs.Ytcecojdeljbjoaa.Sx
open Go Go.RowKit
section
variable {P : Program} {N : Rm} {w0 : World} {ok0 : Nat→Prop} {st st' : St} {ok : Nat→Prop} {ρ : Rho} {a : Act} {w w' : World}
  {next : Act→World→Prop} {Q : Exit→Act→World→Prop} {o : Oper} {rd : Option Nat}

/-! ### to build a struct -/
theorem placesOf_mapM : ∀ {fs : List Field} {pl : List (Nat × Nat)},placesOf P fs=some pl→fs.mapM (fun f => (P.info? f.type).map fun i => (f.offset,i.size))=some pl
  | [],pl,h => by simp only [placesOf,Option.some.injEq] at h; subst h; rfl
  | f :: fs, pl, h => by
    simp only [placesOf] at h
    split at h
    · rename_i n r hn hr
      obtain rfl:=Option.some.inj h
      have ih:=placesOf_mapM hr
      unfold size? at hn
      cases hi : P.info? f.type with
      | none => rw [hi] at hn; cases hn
      | some i =>
        rw [hi] at hn
        simp only [Option.map_some,Option.some.injEq] at hn
        simp [List.mapM_cons,hi,ih,hn]
    · cases h

theorem fill_ok (g : Gam N w0 ok0 st ok ρ a w) (place : Nat→Option (Nat × Nat)) : ∀ {parts : List (Nat × Operand)} {ps : List (Nat × Nat × X)},
    ps.length=parts.length→(∀ (k : Nat) (p : Nat × Operand) (q : Nat × Nat × X),parts[k]?=some p→ps[k]?=some q→place p.1=some (q.1,q.2.1)∧0 < q.2.1∧∃ t,cX P t p.2=some q.2.2) →
    ∀ {cs : List LV} {cells : Array Value} {r : LV},LReps w ok ρ st.hp true cs cells.toList→buildCells st.env cs ps=some r →
    ∃ cells' : Array Value,Instr.fill place cells (parts.map fun p => (p.1,a.eval p.2))=some cells'∧LRep w ok ρ st.hp r (.agg cells')
  | [], [], _, _, cs, cells, r, hc, hb => by
    simp only [buildCells,Option.some.injEq] at hb
    subst hb
    exact ⟨cells,rfl,by simp only [LRep]; exact ⟨cells,rfl,hc⟩⟩
  | [],_ :: _,hl,_,_,_,_,_,_ => by simp at hl
  | _ :: _,[],hl,_,_,_,_,_,_ => by simp at hl
  | (i, x) :: parts, (off, n, y) :: ps, hl, hp, cs, cells, r, hc, hb => by
    simp only [buildCells] at hb
    split at hb
    · rename_i hcond
      obtain ⟨hlen,hle⟩:=hcond
      obtain ⟨hpl,hpos,t,hx⟩:=hp 0 _ _ rfl rfl
      simp only at hpl hpos hx
      have hcells:=cells_ok (rd_ok g hx) (fun e => by rw [e] at hlen; simp at hlen; omega)
      have hcl : (a.eval x).cells.size=n:=by have:=hcells.length; simp at this; omega
      have hcs:=hc.length
      simp only [Array.length_toList] at hcs
      have hspl:=hc.splice hcells (off:=off) (by omega)
      rw [Array.length_toList,hcl] at hspl
      obtain ⟨cells',h1,h2⟩:=fill_ok g place (parts:=parts) (ps:=ps) (by simpa using hl) (fun k p q h h' => hp (k+1) p q (by simpa using h) (by simpa using h'))
        (cells:=(cells.toList.take off++(a.eval x).cells.toList++cells.toList.drop (off+n)).toArray) (by simpa using hspl) hb
      refine ⟨cells',?_,h2⟩
      rw [List.map_cons,fill_cons place cells i (a.eval x) _ off n hpl hcl (by omega)]
      exact h1
    · cases hb

theorem partsOf_get {fs : List Field} {pl : List (Nat × Nat)} : ∀ {parts : List (Nat × Operand)} {ps : List (Nat × Nat × X)},partsOf P fs pl parts=some ps →
    ps.length=parts.length∧∀ (k : Nat) (p : Nat × Operand) (q : Nat × Nat × X),parts[k]?=some p→ps[k]?=some q→pl[p.1]?=some (q.1,q.2.1)∧0 < q.2.1∧∃ t,cX P t p.2=some q.2.2
  | [],ps,h => by simp only [partsOf,Option.some.injEq] at h; subst h; exact ⟨rfl,by simp⟩
  | (i, x) :: parts, ps, h => by
    simp only [partsOf] at h
    split at h
    · rename_i q r hq hr
      obtain rfl:=Option.some.inj h
      obtain ⟨h1,h2⟩:=partsOf_get hr
      refine ⟨by simp [h1],fun k p q' hp hq' => ?_⟩
      cases k with
      | zero =>
        simp only [List.getElem?_cons_zero,Option.some.injEq] at hp hq'
        subst hp
        subst hq'
        unfold partOf at hq
        split at hq
        · rename_i f off n hf hpl
          split at hq
          · rename_i y hy
            obtain rfl:=Option.some.inj hq
            exact ⟨hpl,Nat.succ_pos _,_,hy⟩
          · cases hq
        · cases hq
      | succ k => exact h2 k p q' (by simpa using hp) (by simpa using hq')
    · cases h
theorem apartsOf_get {e : TypeId} {n : Nat} : ∀ {parts : List (Nat × Operand)} {ps : List (Nat × Nat × X)},apartsOf P e n parts=some ps →
    ps.length=parts.length∧∀ (k : Nat) (p : Nat × Operand) (q : Nat × Nat × X),parts[k]?=some p→ps[k]?=some q→q.1=p.1 * n∧q.2.1=n∧∃ t,cX P t p.2=some q.2.2
  | [],ps,h => by simp only [apartsOf,Option.some.injEq] at h; subst h; exact ⟨rfl,by simp⟩
  | (i, x) :: parts, ps, h => by
    simp only [apartsOf] at h
    split at h
    · rename_i q r hq hr
      obtain rfl:=Option.some.inj h
      obtain ⟨h1,h2⟩:=apartsOf_get hr
      refine ⟨by simp [h1],fun k p q' hp hq' => ?_⟩
      cases k with
      | zero =>
        simp only [List.getElem?_cons_zero,Option.some.injEq] at hp hq'
        subst hp
        subst hq'
        exact ⟨rfl,rfl,_,hq⟩
      | succ k => exact h2 k p q' (by simpa using hp) (by simpa using hq')
    · cases h

theorem op_build (g : Gam N w0 ok0 st ok ρ a w) {d : Nat} (hd : o.dst=some d) (hN : N.may d) {t : TypeId} {parts : Array (Nat × Operand)} {zs : List LV} {ps : List (Nat × Nat × X)} (ho : o.op=.build t parts) (hz : zeroL P t=some zs)
    (hc : (∃ fs pl,P.underlying t=some (.struct fs)∧placesOf P fs.toList=some pl∧partsOf P fs.toList pl parts.toList=some ps)∨(∃ k e n,P.underlying t=some (.array k e)∧size? P e=some (n+1)∧apartsOf P e (n+1) parts.toList=some ps))
    (he : setM st d (buildCells st.env zs ps)=some st') (hn : Into N w0 ok0 st' next) : o.wpIn (FR rd) 0 P a w next Q:=by
  obtain ⟨l,hl,rfl⟩:=setM_some he
  obtain ⟨z,hz1,hz2⟩:=zeroL_some hz
  have hzc:=cLs_ok (w:=w) (ok:=ok) (ρ:=ρ) (st:=st) hz2
  have key : ∃ cells',P.built t (parts.map fun p => (p.1,a.eval p.2)).toList=some cells'∧LRep w ok ρ st.hp l (.agg cells'):=by
    cases hi : P.info? t with
    | none => rw [hi] at hz1; cases hz1
    | some it =>
      have hz1' : it.zero=some z:=by rw [hi] at hz1; exact hz1
      rcases hc with ⟨fs,pl,h1,h2,h3⟩ | ⟨k,e,n,h1,h2,h3⟩
      · obtain ⟨k1, k2⟩ := partsOf_get h3
        obtain ⟨cells',f1,f2⟩:=fill_ok g (fun i => pl.toArray[i]?) k1 (fun k p q hp hq => by simpa using k2 k p q hp hq) (cells:=z.cells) hzc hl
        refine ⟨cells',?_,f2⟩
        simp only [Program.built,hi,h1,hz1',placesOf_mapM h2,Array.toList_map]
        exact f1
      · obtain ⟨k1, k2⟩ := apartsOf_get h3
        obtain ⟨cells',f1,f2⟩:=fill_ok g (fun i => some (i * (n+1),n+1)) k1 (fun k p q hp hq => by obtain ⟨j1,j2,j3⟩:=k2 k p q hp hq; exact ⟨by rw [j1,j2],by omega,j3⟩) (cells:=z.cells) hzc hl
        unfold size? at h2
        cases hie : P.info? e with
        | none => rw [hie] at h2; cases h2
        | some ie =>
          rw [hie] at h2
          simp only [Option.map_some,Option.some.injEq] at h2
          refine ⟨cells',?_,f2⟩
          simp only [Program.built,hi,h1,hz1',hie,h2,Array.toList_map]
          exact f1
  obtain ⟨cells',hb,hr⟩:=key
  refine ok_val g hd hN (v:=.agg cells') ?_ hr hn
  have:=run_build (P:=P) w t _ cells' hb
  simp [execOp,ho,this]

/-! ### appends -/
theorem byteRows_are (s : List UInt8) : RowsAre w ok 1 (byteRows s) (s.map fun b => Value.int .u8 b.toNat):=by
  induction s with
  | nil => exact RowsAre.nil
  | cons b s ih =>
    have h1 : RowsAre w ok [TV.int .u8 (b.toNat : Int)].length [[TV.int .u8 (b.toNat : Int)]] [Value.int .u8 b.toNat]:=RowsAre.one (by
      simp only [ValsRep,TRep]
      exact ⟨_,_,rfl,fun _ => rfl,rfl,rfl⟩)
    exact h1.append ih
theorem byteRows_length (s : List UInt8) : (byteRows s).length=s.length:=by induction s with
  | nil => rfl
  | cons b s ih => simp [byteRows,ih]

theorem rowsOf_ok (g : Gam N w0 ok0 st ok ρ a w) {l : LV} {sz : Nat} {new : List (List TV)} (h : rowsOf st.hp l=some (sz,new)) {x : Value} (hx : LRep w ok ρ st.hp l x) :
    ∃ news : List Value,RowsAre w ok sz new news∧(∀ w1 : World,(Builtin.lenOf x).run P w1=.ok new.length w1) ∧
      (∀ (w1 : World) (n : Nat),w1.heap=w.heap→n≤new.length→(Builtin.firstCells sz n x).run P w1=.ok (news.take (n * sz)).toArray w1):=by
  have first : ∀ {rows : List (List TV)} {vs : List Value} {b o' cap len : Nat},RowsAre w ok sz rows vs→len=rows.length→(∀ j v,vs[j]?=some v→w.cell? ⟨b,o'+j,none⟩=some v) →
      ∀ (w1 : World) (n : Nat),w1.heap=w.heap→n≤rows.length→(Builtin.firstCells sz n (.slice (some ⟨b,o',none⟩) len cap)).run P w1=.ok (vs.take (n * sz)).toArray w1:=by
    intro rows vs b o' cap len hr hlen hc w1 n hw hn
    have hl : (vs.take (n * sz)).length=n * sz:=by
      rw [List.length_take,hr.1]
      exact Nat.min_eq_left (Nat.mul_le_mul_right _ hn)
    have:=run_loadCells_list (P:=P) w1 ⟨b,o',none⟩ (vs.take (n * sz)) (fun j v hj => by
      rw [addr_add]
      have : w1.cell? ⟨b,o'+j,none⟩=w.cell? ⟨b,o'+j,none⟩:=by simp [World.cell?,hw]
      rw [this]
      rw [List.getElem?_take] at hj
      split at hj
      · exact hc j v hj
      · cases hj)
    rw [hl] at this
    simp [Builtin.firstCells,this]
  unfold rowsOf at h
  split at h
  · rename_i fl sz' rows
    simp only [Option.some.injEq,Prod.mk.injEq] at h
    obtain ⟨rfl,rfl⟩:=h
    obtain ⟨ad,cap,rfl,h3,h4,h5,h6⟩:=sl_form hx
    rcases h6 with rfl | ⟨b,o',rfl,hb,hr⟩
    · refine ⟨[], RowsAre.nil, fun w1 => rfl, fun w1 n _ hn => ?_⟩
      obtain rfl : n=0:=by simpa using hn
      cases ad<;>simp [Builtin.firstCells,loadCells,loadCellsFrom]
    · obtain ⟨vs, k1, k2⟩ := hr.are
      exact ⟨vs,k1,fun w1 => rfl,first k1 rfl k2⟩
  · rename_i z
    simp only [Option.some.injEq,Prod.mk.injEq] at h
    obtain ⟨rfl,rfl⟩:=h
    have e1:=lv_str hx
    subst e1
    refine ⟨_,byteRows_are z.data.toList,fun w1 => by rw [byteRows_length]; rfl,fun w1 n _ hn => ?_⟩
    rw [byteRows_length] at hn
    simp only [Builtin.firstCells,Sem.run_pure,Nat.mul_one]
    congr 1
    apply Array.ext'
    have : (z.extract 0 n).data.toList=z.data.toList.take n:=by
      simp [ByteArray.extract,ByteArray.copySlice]
    simp
  · rename_i id off len
    unfold rowsS at h
    split at h
    · rename_i fz e sz' rows hid
      simp only [Option.some.injEq,Prod.mk.injEq] at h
      obtain ⟨rfl,rfl⟩:=h
      simp only [LRep,hid,SRep] at hx
      obtain ⟨ad,cap,rfl,h3,h4,h5,h6⟩:=hx
      have hlen : len=((rows.drop off).take len).length:=by simp; omega
      by_cases hz : len=0
      · subst hz
        refine ⟨[],by simpa using RowsAre.nil,fun w1 => by simp [Builtin.lenOf],fun w1 n _ hn => ?_⟩
        obtain rfl : n=0:=by simpa using hn
        cases ad<;>simp [Builtin.firstCells,loadCells,loadCellsFrom]
      · rcases h6 with ⟨_, h7, _⟩ | ⟨b, K, h7, h8, h9⟩
        · omega
        · rcases h9 with rfl | ⟨h9, _⟩
          · rcases g.obj id _ hid with ⟨h10, _⟩ | ⟨b', K', cur, h10, h11, h12, h13, h14, h15⟩
            · rw [h7] at h10; cases h10
            · rw [h7] at h10
              obtain ⟨rfl,rfl⟩ : b=b'∧K=K':=by simpa using h10
              obtain ⟨vs,k1,k2⟩:=((h15.drop off).take len).are
              exact ⟨vs,k1,fun w1 => by rw [← hlen]; rfl,first k1 hlen (by simpa using k2)⟩
          · omega
    · cases h
  · cases h

end
end Go.Proofs.Ytcecojdeljbjoaa.Sx
namespace Go.Proofs.Ytcecojdeljbjoaa.Sx
open Go Go.RowKit
section
variable {P : Program} {N : Rm} {w0 : World} {ok0 : Nat→Prop} {st st' : St} {ok : Nat→Prop} {ρ : Rho} {a : Act} {w w' : World}
  {next : Act→World→Prop} {Q : Exit→Act→World→Prop} {o : Oper} {rd : Option Nat}

theorem cVs_length : ∀ {ts : List TypeId} {vs : List Value} {zs : List TV},cVs P ts vs=some zs→zs.length=vs.length
  | [],[],zs,h => by simp only [cVs,Option.some.injEq] at h; subst h; rfl
  | [],_ :: _,zs,h => by simp only [cVs] at h; cases h
  | _ :: _,[],zs,h => by simp only [cVs] at h; cases h
  | t :: ts, v :: vs, zs, h => by
    simp only [cVs] at h
    split at h
    · rename_i x xs hx hxs
      obtain rfl:=Option.some.inj h
      simp [cVs_length hxs]
    · cases h

theorem ok_empty (g : Gam N w0 ok0 st ok ρ a w) {d : Nat} (hd : o.dst=some d) (hN : N.may d) {id : Nat} {e : TypeId} {sz : Nat} (hm : mkO d id (.arr false e sz []) (.s id 0 0) st=some st') {ad : Option Addr}
    (hrun : (execOp a.eval o).run P w=.ok (.value (.slice ad 0 0)) w) (hn : Into N w0 ok0 st' next) : o.wpIn (FR rd) 0 P a w next Q:=by
  obtain ⟨hid,rfl⟩:=mkO_some hm
  have g1:=g.adopt hid (o:=.arr false e sz []) (x:=none) (by simp) (.inl ⟨upd_same _ _ _,rfl⟩)
  refine wp_val hrun ?_
  rw [hd]
  refine hn _ _ _ _ (g1.put hN ?_)
  simp only [LRep,SRep,upd_same]
  exact ⟨ad,0,rfl,Nat.le_refl _,Nat.le_refl _,Nat.zero_le _,.inl (by simp)⟩

theorem kill_none {id k : Nat} {h : Hp} (hk : upd h id (some .dead) k=none) : h k=none:=by
  by_cases e : k=id
  · subst e; rw [upd_same] at hk; cases hk
  · rwa [upd_ne _ _ e] at hk

theorem news_all {sz : Nat} {new : List (List TV)} {news : List Value} (hnews : RowsAre w ok sz new news) : news.take (new.length * sz)=news:=List.take_of_length_le (by rw [hnews.1]; exact Nat.le_refl _)

theorem appN_some {lo d : Nat} {e : TypeId} {sz : Nat} {new : List (List TV)} (h : appN lo st d e sz new=some st') : mkO d (lo+d) (.arr false e sz new) (.s (lo+d) 0 new.length) st=some st' ∨
    ∃ e2 z,new=[[.sl (.tight e2) z []]]∧mkO d (lo+d) (.var false [.v (.sl (.tight e2) z [])]) (.s (lo+d) 0 1) st=some st':=by
  unfold appN at h
  split at h
  · exact .inl h
  · unfold appV at h
    split at h
    · exact .inr ⟨_,_,rfl,h⟩
    · exact .inl h
theorem later_move {h : Hp} {id k : Nat} (hk : (upd h id (some .dead)) k=none) (x : Option (Nat × Nat)) (o' : Ob) : Later ρ (upd ρ k x) h (upd (upd h id (some .dead)) k (some o')):=fun j p hp => by
  have hjk : j≠k:=fun e => by
    subst e
    rw [kill_none hk] at hp; cases hp
  rw [upd_ne ρ _ hjk,upd_ne _ _ hjk]
  exact (later_kill (ρ:=ρ) (h:=h) id) j p hp
theorem ok_vec (g : Gam N w0 ok0 st ok ρ a w) {d : Nat} (hd : o.dst=some d) (hN : N.may d) {id : Nat} {e : TypeId} {n : Nat} {cs : List LV} (hm : mkO d id (.var false cs) (.s id 0 n) st=some st') {w1 : World} {cur : Array Value} {cap : Nat}
    (hrun : (execOp a.eval o).run P w=.ok (.value (.slice (some ⟨w.heap.size,0,none⟩) n cap)) (w1.alloc (.cells cur e))) (hw1 : w1=w∨w1=w.drew)
    {vs : List Value} (hcs : LReps w ok ρ st.hp true cs vs) (hcur : cur.toList.take cs.length=vs) (hsz : cap≤cur.size) (hcap : cap≤maxLen) (hn : n≤cap) (hle : cs.length≤cur.size)
    (hnext : Into N w0 ok0 st' next) : o.wpIn (FR rd) 0 P a w next Q:=by
  have hid:=(mkO_some hm).1
  have hs : Same w (w1.alloc (.cells cur e)) ok ok:=by
    rcases hw1 with h | h<;>rw [h]
    · exact same_alloc g _
    · exact same_drew_alloc g _
  have hb : (w1.alloc (.cells cur e)).heap[w.heap.size]?=some (.cells cur e (0,0)):=by
    rcases hw1 with h | h<;>rw [h]
    · exact heap_alloc_new w _
    · exact heap_alloc_new w.drew _
  refine ok_new g hd hN hm cap hrun hw1 ⟨w.heap.size,cap,cur,e,upd_same _ _ _,hb,hsz,hle,?_⟩ ?_ hnext
  · rw [hcur]; exact hcs.to hs (later_new hid _ _)
  · simp only [LRep, SRep, upd_same]
    exact ⟨trivial,w.heap.size,cap,rfl,rfl,hn,hcap⟩
theorem rows_one {sz : Nat} {t : TV} {news : List Value} (h : RowsAre w ok sz [[t]] news) : sz=1∧∃ v,news=[v]∧v.oneCell'=true∧TRep w ok t v:=by
  obtain ⟨h1,h2,h3⟩:=h
  obtain ⟨h4,h5⟩:=h3 0 [t] rfl
  have h4 : sz=1:=h4.symm
  subst h4
  obtain ⟨v,h6,h7⟩:=h5 0 t rfl
  have hl : news.length=1:=h1
  obtain ⟨u,rfl⟩:=List.length_eq_one_iff.1 hl
  have : u=v:=by simpa using h6
  subst this
  exact ⟨rfl,u,rfl,h2 u (by simp),h7⟩
theorem lreps_snoc {h : Hp} {cs : List LV} {vs : List Value} {t : TV} {v : Value} (h1 : LReps w ok ρ h true cs vs) (h2 : v.oneCell'=true) (h3 : TRep w ok t v) : LReps w ok ρ h true (cs++[.v t]) (vs++[v]):=by
  refine LReps.of (by simp [h1.length]) fun i l hi => ?_
  by_cases hlt : i < cs.length
  · rw [List.getElem?_append_left hlt] at hi
    obtain ⟨u,k1,k2,k3⟩:=h1.get i l hi
    exact ⟨u,by rw [List.getElem?_append_left (by rw [h1.length]; exact hlt)]; exact k1,k2,k3⟩
  · rw [List.getElem?_append_right (by omega)] at hi
    have h0 : i - cs.length=0:=by
      have:=(List.getElem?_eq_some_iff.1 hi).1
      simp at this; omega
    rw [h0] at hi
    simp only [List.getElem?_cons_zero,Option.some.injEq] at hi
    subst hi
    refine ⟨v,?_,fun _ => h2,by simp only [LRep]; exact h3⟩
    rw [List.getElem?_append_right (by rw [h1.length]; omega),h1.length,h0]; rfl

section
variable {d : Nat} {t u e : TypeId} {x y : Operand} {lo : Nat} {i : TypeInfo} {z : Value} {new : List (List TV)} {news : List Value}
  (ho : o.op=.call { callee:=.builtin .append,args:=#[x,y],argTypes:=#[t,u] }) (ht : P.underlying t=some (.slice e)) (hu : (∃ e',P.underlying u=some (.slice e'))∨P.underlying u=some .string)
  (hi : P.info? e=some i) (hz : i.zero=some z) (hzs : z.cells.size=i.size)
  (hnews : RowsAre w ok i.size new news) (hlen : ∀ w1 : World,(Builtin.lenOf (a.eval y)).run P w1=.ok new.length w1)
  (hfirst : ∀ (w1 : World) (n : Nat),w1.heap=w.heap→n≤new.length→(Builtin.firstCells i.size n (a.eval y)).run P w1=.ok (news.take (n * i.size)).toArray w1)
include ho ht hu hi hz hzs hnews hlen hfirst

theorem ok_far {st0 : St} (g : Gam N w0 ok0 st0 ok ρ a w) (hd : o.dst=some d) (hN : N.may d) {rows : List (List TV)} {olds : List Value} (holds : RowsAre w ok i.size rows olds) {ad : Option Addr} {cap : Nat} (hx : a.eval x=.slice ad rows.length cap)
    (hold : ∀ w1 : World,w1.heap=w.heap→(Builtin.firstCells i.size rows.length (.slice ad rows.length cap)).run P w1=.ok olds.toArray w1)
    (hg : cap < rows.length+new.length) (hby : (rows.length+new.length) * i.bytes≤140737488355328) (h63 : rows.length+new.length≤maxLen)
    (hm : mkO d (lo+d) (.arr false e i.size (rows++new)) (.s (lo+d) 0 (rows.length+new.length)) st0=some st') (hn : Into N w0 ok0 st' next) : o.wpIn (FR rd) 0 P a w next Q:=by
  have hnew:=hfirst w.drew new.length rfl (Nat.le_refl _)
  rw [news_all hnews] at hnew
  have hrun:=run_append_far (P:=P) w t u o.type e i z ht hu hi hz ad rows.length cap olds (hold w.drew rfl) (a.eval y) new.length news (hlen w) hnew hg h63 hby
  have hge:=grownCap_ge w (rows.length+new.length) cap e
  refine ok_arr g hd hN hm (cap:=grownCap w (rows.length+new.length) cap e) (w1:=w.drew)
    (cur:=(olds++news++(Builtin.zeroCells z.cells (grownCap w (rows.length+new.length) cap e - (rows.length+new.length))).toList).toArray) (vs:=olds++news) ?_ (.inr rfl) (holds.append hnews) ?_ ?_ (grownCap_le_maxLen w _ _ _ h63) (by simp) (by simpa using hge) hn
  · simp [execOp,ho,resolve,invoke,builtin,hx,hrun]
  · intro j v hj
    simp only [List.getElem?_toArray]
    rw [List.getElem?_append_left (List.getElem?_eq_some_iff.1 hj).1]
    exact hj
  · simp only [List.size_toArray, List.length_append, Array.length_toList, size_zeroCells, hzs, holds.1, hnews.1]
    rw [← Nat.add_mul,← Nat.add_mul]
    congr 1
    omega

theorem ok_farv {st0 : St} (g : Gam N w0 ok0 st0 ok ρ a w) (hd : o.dst=some d) (hN : N.may d) {q : TV} (hq : new=[[q]]) {cs : List LV} {olds : List Value} (holds : LReps w ok ρ st0.hp true cs olds) {ad : Option Addr} {cap : Nat} (hx : a.eval x=.slice ad cs.length cap)
    (hold : ∀ w1 : World,w1.heap=w.heap→(Builtin.firstCells i.size cs.length (.slice ad cs.length cap)).run P w1=.ok olds.toArray w1)
    (hg : cap < cs.length+1) (hby : (cs.length+1) * i.bytes≤140737488355328) (h63 : cs.length+1≤maxLen)
    (hm : mkO d (lo+d) (.var false (cs++[.v q])) (.s (lo+d) 0 (cs.length+1)) st0=some st') (hn : Into N w0 ok0 st' next) : o.wpIn (FR rd) 0 P a w next Q:=by
  have hnew:=hfirst w.drew new.length rfl (Nat.le_refl _)
  rw [news_all hnews] at hnew
  subst hq
  obtain ⟨hi1,v,rfl,hv1,hv2⟩:=rows_one hnews
  have hrun:=run_append_far (P:=P) w t u o.type e i z ht hu hi hz ad cs.length cap olds (hold w.drew rfl) (a.eval y) 1 [v] (hlen w) hnew hg h63 hby
  have hge:=grownCap_ge w (cs.length+1) cap e
  have hol:=holds.length
  have hzl : (Builtin.zeroCells z.cells (grownCap w (cs.length+1) cap e - (cs.length+1))).toList.length=grownCap w (cs.length+1) cap e - (cs.length+1):=by
    rw [Array.length_toList,size_zeroCells,hzs,hi1,Nat.mul_one]
  refine ok_vec (e:=e) g hd hN hm (cap:=grownCap w (cs.length+1) cap e) (w1:=w.drew)
    (cur:=(olds++[v]++(Builtin.zeroCells z.cells (grownCap w (cs.length+1) cap e - (cs.length+1))).toList).toArray) (vs:=olds++[v]) ?_ (.inr rfl) (lreps_snoc holds hv1 hv2) ?_ ?_ (grownCap_le_maxLen w _ _ _ h63) hge ?_ hn
  · simp [execOp,ho,resolve,invoke,builtin,hx,hrun]
  · have e1 : (cs ++ [LV.v q]).length = (olds ++ [v]).length := by simp [hol]
    rw [e1]
    exact List.take_left
  · simp only [List.size_toArray, List.length_append, hzl, List.length_cons, List.length_nil, hol]
    omega
  · simp only [List.size_toArray, List.length_append, hzl, List.length_cons, List.length_nil, hol]
    omega
omit hz hzs hnews in
theorem ok_none (hx : ∃ ad len cap,a.eval x=.slice ad len cap∧len≤cap) (h0 : new=[]) : (execOp a.eval o).run P w=.ok (.value (a.eval x)) w:=by
  obtain ⟨ad,len,cap,hx,hle⟩:=hx
  subst h0
  have hnew:=hfirst w 0 rfl (Nat.le_refl _)
  have hrun:=run_append_none (P:=P) w t u o.type e i ht hu hi ad len cap (a.eval y) (hlen w) (by simpa using hnew) hle
  simp [execOp,ho,resolve,invoke,builtin,hx,hrun]

theorem append_ok (g : Gam N w0 ok0 st ok ρ a w) (hd : o.dst=some d) (hN : N.may d) {l : LV} (hx : LRep w ok ρ st.hp l (a.eval x)) (hb : 0 < i.bytes) (hbs : 0 < i.size)
    (he : appL lo st d e i.size i.bytes new l=some st') (hn : Into N w0 ok0 st' next) : o.wpIn (FR rd) 0 P a w next Q:=by
  have small : ∀ {m : Nat},m * i.bytes≤140737488355328→m≤maxLen:=fun {m} h => by
    have:=Nat.le_mul_of_pos_right m hb
    simp only [maxLen]
    omega
  unfold appL at he
  split at he
  · rename_i te sz' rows
    split at he
    · rename_i hsz
      subst hsz
      obtain ⟨ad,cap,e1,h3,h4,h5,h6⟩:=sl_form hx
      obtain rfl:=h5 _ rfl
      cases rows with
      | nil =>
        simp only [appT] at he
        split at he
        · rename_i hby
          cases new with
          | nil =>
            have hr:=ok_none ho ht hu hi hlen hfirst ⟨ad,_,_,e1,Nat.le_refl _⟩ rfl
            rw [e1] at hr
            rcases appN_some he with he | ⟨_,_,hc,_⟩
            · exact ok_empty g hd hN he hr hn
            · cases hc
          | cons q qs =>
           rcases appN_some he with he | ⟨e2,z2,hc,he⟩
           · refine ok_far ho ht hu hi hz hzs hnews hlen hfirst g hd hN (rows := []) (olds := []) (lo := lo) RowsAre.nil e1 (fun w1 _ => ?_) (by simp) (by simpa using hby) (small (by simpa using hby)) (by simpa using he) hn
             cases ad<;>simp [Builtin.firstCells,loadCells,loadCellsFrom]
           · have hl0 : (q :: qs).length = 1 := by rw [hc]; rfl
             refine ok_farv ho ht hu hi hz hzs hnews hlen hfirst g hd hN hc (cs:=[]) (olds:=[]) (lo:=lo) (by simp only [LReps]) e1 (fun w1 _ => ?_) (by simp) (by rw [hl0] at hby; simpa using hby) (small (by rw [hl0] at hby; simpa using hby)) he hn
             cases ad<;>simp [Builtin.firstCells,loadCells,loadCellsFrom]
        · cases he
      | cons r rows =>
        simp only [appT] at he
        split at he
        · rename_i hem
          obtain rfl : new=[]:=by simpa using hem
          obtain rfl:=Option.some.inj he
          refine ok_val g hd hN (v:=a.eval x) (ok_none ho ht hu hi hlen hfirst ⟨ad,_,_,e1,Nat.le_refl _⟩ rfl) ?_ hn
          refine lrep_v ?_
          simp only [TRep]
          exact ⟨ad,_,_,e1,rfl,Nat.le_refl _,h4,fun _ _ => rfl,h6⟩
        · split at he
          · rename_i hem hby
            rcases h6 with h6 | ⟨b,o',rfl,hbk,hr⟩
            · cases h6
            · obtain ⟨vs, k1, k2⟩ := hr.are
              refine ok_far ho ht hu hi hz hzs hnews hlen hfirst g hd hN (rows:=r :: rows) (olds:=vs) (lo:=lo) k1 e1 (fun w1 hw => ?_) ?_ hby (small hby) he hn
              · exact run_first_rows w1 i.size _ b o' _ vs k1.1 (fun j v hj => by
                  have:=k2 j v hj
                  simpa [World.cell?,hw] using this)
              · cases new with
                | nil => simp at hem
                | cons q qs => simp
          · cases he
    · cases he
  · rename_i id len
    unfold appS at he
    split at he
    · rename_i e' sz' rows hid
      split at he
      · rename_i hc
        obtain ⟨rfl,rfl,hby⟩:=hc
        simp only [LRep,hid,SRep] at hx
        obtain ⟨ad,cap,e1,h3,h4,h5,h6⟩:=hx
        have hm:=he
        have hidk:=(mkO_some hm).1
        have gk:=g.kill id
        rcases h6 with ⟨r1,r2,_⟩ | ⟨b,K,r1,r2,r3⟩
        · have hlen0 : len = 0 := by omega
          subst hlen0
          subst r2
          rcases g.obj id _ hid with ⟨_,rfl⟩ | ⟨b',K',cur,h10,_⟩
          · cases new with
            | nil =>
              have hr:=ok_none ho ht hu hi hlen hfirst ⟨ad,_,_,e1,Nat.le_refl _⟩ rfl
              rw [e1] at hr
              exact ok_empty gk hd hN (by simpa using hm) hr hn
            | cons q qs =>
              refine ok_far ho ht hu hi hz hzs hnews hlen hfirst gk hd hN (rows:=[]) (olds:=[]) (lo:=lo) RowsAre.nil e1 (fun w1 _ => ?_) (by simp) (by simpa using hby) (small (by simpa using hby)) (by simpa using hm) hn
              cases ad<;>simp [Builtin.firstCells,loadCells,loadCellsFrom]
          · rw [r1] at h10; cases h10
        · rcases g.obj id _ hid with ⟨h10, _⟩ | ⟨b', K', cur, h10, h11, h12, h13, h14, h15⟩
          · rw [r1] at h10; cases h10
          · rw [r1] at h10
            obtain ⟨rfl,rfl⟩ : b=b'∧K=K':=by simpa using h10
            rcases r3 with rfl | ⟨_,r4⟩
            · simp only [Nat.zero_mul] at e1
              obtain rfl : cap=K:=by omega
              obtain ⟨vs,k1,k2⟩:=(h15.take len).are
              have hlr : (rows.take len).length=len:=by simp; omega
              have k2' : ∀ j v,vs[j]?=some v→cur[j]?=some v:=fun j v hj => by
                have:=k2 j v hj
                rw [cell_of_row w b (0+j) cur e' (0,0) h11] at this
                simpa using this
              by_cases hroom : len+new.length≤cap
              · have hnew := hfirst w new.length rfl (Nat.le_refl _)
                rw [news_all hnews] at hnew
                have hfit : len * i.size+news.length≤cur.size:=by rw [hnews.1,h12,← Nat.add_mul]; exact Nat.mul_le_mul_right _ hroom
                have hrun:=run_append_near (P:=P) w t u o.type e' i ht hu hi b len cap cur h11 (a.eval y) new.length news (hlen w) hnew hnews.2.1 hroom hfit
                obtain ⟨hk0,rfl⟩:=mkO_some hm
                have hnb : ∀ c,ok c→c≠b:=fun c hc' e'' => (g.free c hc').2 id _ cap hid rfl (e'' ▸ r1)
                have hs' : Same w (w.setRow b (cur.toList.take (len * i.size)++news++cur.toList.drop (len * i.size+news.length)).toArray) ok ok:=fun c hc' => ⟨setRow_other w b c _ (hnb c hc'),hc'⟩
                have hvl : vs.length=len * i.size:=by rw [k1.1,hlr]
                refine wp_val (v:=.slice (some ⟨b,0,none⟩) (len+new.length) cap) (w':=w.setRow b (cur.toList.take (len * i.size)++news++cur.toList.drop (len * i.size+news.length)).toArray) ?_ ?_
                · simp [execOp,ho,resolve,invoke,builtin,e1,hrun]
                · rw [hd]
                  refine hn _ _ _ _ ((g.moveIn hk0 hid rfl (o':=.arr false e' i.size (rows.take len++new)) rfl r1 (K':=cap) _ ?_).put hN ?_)
                  · refine .inr ⟨b, cap, _, upd_same _ _ _, setRow_same w b cur _ e' h11, ?_, h13, by simp; omega, ((k1.to hs').append (hnews.to hs')).rep (setRow_same w b cur _ e' h11) ?_⟩
                    · simp only [List.size_toArray, List.length_append, List.length_take, List.length_drop, Array.length_toList]
                      omega
                    · intro j v hj
                      simp only [List.getElem?_toArray]
                      rw [splice_get cur.toList news (len * i.size) j (by simpa using hfit)]
                      by_cases hj1 : j < vs.length
                      · rw [List.getElem?_append_left hj1] at hj
                        rw [if_neg (by omega)]
                        simpa using k2' j v hj
                      · rw [List.getElem?_append_right (by omega)] at hj
                        have hj2:=(List.getElem?_eq_some_iff.1 hj).1
                        rw [if_pos ⟨by omega,by omega⟩]
                        rw [show j - len * i.size=j - vs.length by omega]
                        exact hj
                  · simp only [LRep, SRep, upd_same]
                    exact ⟨_,cap,rfl,by simp; omega,hroom,h13,.inr ⟨b,cap,rfl,by omega,.inl (by simp)⟩⟩
              · refine ok_far ho ht hu hi hz hzs hnews hlen hfirst gk hd hN (rows := rows.take len) (olds := vs) (lo := lo) (ad := some ⟨b, 0, none⟩) (cap := cap) k1 (by rw [hlr]; exact e1) (fun w1 hw => ?_) (by rw [hlr]; omega) (by rw [hlr]; exact hby) (small (by rw [hlr]; exact hby)) (by rw [hlr]; exact hm) hn
                exact run_first_rows w1 i.size _ b 0 _ vs k1.1 (fun j v hj => by
                  have:=k2 j v hj
                  simpa [World.cell?,hw] using this)
            · cases r4
      · cases he
    · rename_i cs hid
      unfold appW at he
      split at he
      · rename_i q
        split at he
        · rename_i hc
          obtain ⟨rfl,hi1,hby⟩:=hc
          simp only [LRep,hid,SRep] at hx
          obtain ⟨_,b,cap,r1,e1,h3,h4⟩:=hx
          have hm:=he
          have hidk:=(mkO_some hm).1
          have gk:=g.kill id
          obtain ⟨b',K',cur,ty,h10,h11,h12,h13,h14⟩:=g.obj id _ hid
          rw [r1] at h10
          obtain ⟨rfl,rfl⟩ : b=b'∧cap=K':=by simpa using h10
          obtain ⟨_,v,rfl,hv1,hv2⟩:=rows_one hnews
          have hol:=h14.length
          have k2 : ∀ j v,(cur.toList.take cs.length)[j]?=some v→cur[j]?=some v:=fun j v hj => by
            rw [List.getElem?_take] at hj
            split at hj
            · simpa using hj
            · cases hj
          by_cases hroom : cs.length+1≤cap
          · have hnew := hfirst w 1 rfl (Nat.le_refl _)
            rw [show ([v] : List Value).take (1 * i.size)=[v] by rw [hi1]; rfl] at hnew
            have hfit : cs.length * i.size+([v] : List Value).length≤cur.size:=by rw [hi1]; simp only [List.length_cons,List.length_nil]; omega
            have hrun:=run_append_near (P:=P) w t u o.type e i ht hu hi b cs.length cap cur h11 (a.eval y) 1 [v] (hlen w) hnew hnews.2.1 hroom hfit
            obtain ⟨hk0,rfl⟩:=mkO_some hm
            have hnb : ∀ c,ok c→c≠b:=fun c hc' e'' => (g.free c hc').2 id _ cap hid rfl (e'' ▸ r1)
            obtain ⟨cur',hcur'⟩ : ∃ cur',cur'=(cur.toList.take (cs.length * i.size)++[v]++cur.toList.drop (cs.length * i.size+([v] : List Value).length)).toArray:=⟨_,rfl⟩
            rw [← hcur'] at hrun
            have hsz' : cur'.size=cur.size:=by
              rw [hcur',hi1]
              simp only [List.size_toArray,List.length_append,List.length_take,List.length_drop,Array.length_toList,List.length_cons,List.length_nil]; omega
            have htk : cur'.toList.take (cs++[LV.v q]).length=cur.toList.take cs.length++[v]:=by
              rw [hcur',hi1,List.length_append,Nat.mul_one]
              have e2 : cs.length+[LV.v q].length=(cur.toList.take cs.length++[v]).length:=by rw [List.length_append,hol]; rfl
              rw [e2]
              exact List.take_left
            have hs' : Same w (w.setRow b cur') ok ok:=fun c hc' => ⟨setRow_other w b c _ (hnb c hc'),hc'⟩
            refine wp_val (v:=.slice (some ⟨b,0,none⟩) (cs.length+1) cap) (w':=w.setRow b cur') ?_ ?_
            · simp [execOp,ho,resolve,invoke,builtin,e1,hrun]
            · rw [hd]
              refine hn _ _ _ _ ((g.moveIn hk0 hid rfl (o':=.var false (cs++[.v q])) rfl r1 (K':=cap) _ ?_).put hN ?_)
              · refine ⟨b, cap, _, ty, upd_same _ _ _, setRow_same w b cur _ ty h11, by rw [hsz']; exact h12, by rw [hsz', List.length_append]; simp only [List.length_cons, List.length_nil]; omega, ?_⟩
                rw [htk]
                exact (lreps_snoc h14 hv1 hv2).to hs' (later_move hk0 _ _)
              · simp only [LRep, SRep, upd_same]
                exact ⟨trivial,b,cap,rfl,rfl,hroom,h4⟩
          · refine ok_farv ho ht hu hi hz hzs hnews hlen hfirst gk hd hN rfl (cs := cs) (olds := cur.toList.take cs.length) (lo := lo) (ad := some ⟨b, 0, none⟩) (cap := cap) (h14.to (Same.refl w ok) (later_kill id)) e1 (fun w1 hw => ?_) (by omega) hby (small hby) hm hn
            exact run_first_rows w1 i.size _ b 0 _ _ (by rw [hol,hi1,Nat.mul_one]) (fun j v hj => by
              have:=k2 j v hj
              rw [show w1.cell? ⟨b,0+j,none⟩=w.cell? ⟨b,0+j,none⟩ by simp [World.cell?,hw],cell_of_row w b (0+j) cur ty (0,0) h11]
              simpa using this)
        · cases he
      · cases he
    · cases he
  · cases he
end

theorem op_append (g : Gam N w0 ok0 st ok ρ a w) {d : Nat} (hd : o.dst=some d) (hN : N.may d) {t u e t1 t2 : TypeId} {x y : Operand} {x' y' : X} {lo : Nat} {i : TypeInfo} {zs : List TV}
    (ho : o.op=.call { callee:=.builtin .append,args:=#[x,y],argTypes:=#[t,u] }) (hx : cX P t1 x=some x') (hy : cX P t2 y=some y') (ht : P.underlying t=some (.slice e)) (hu : (∃ e',P.underlying u=some (.slice e'))∨P.underlying u=some .string)
    (hi : P.info? e=some i) (hz : zeroT P e=some zs) (hzl : zs.length=i.size) (hb : 0 < i.bytes) (hbs : 0 < i.size)
    (he : appK lo st d e i.size i.bytes (x'.rd st.env) (rowsOf st.hp (y'.rd st.env))=some st') (hn : Into N w0 ok0 st' next) : o.wpIn (FR rd) 0 P a w next Q:=by
  unfold appK at he
  split at he
  · rename_i sz' new hrows
    split at he
    · rename_i hsz
      subst hsz
      obtain ⟨news,h1,h2,h3⟩:=rowsOf_ok (P:=P) g hrows (rd_ok g hy)
      obtain ⟨z,hz1,hz2⟩:=zeroT_some hz
      rw [hi] at hz1
      exact append_ok ho ht hu hi hz1 (by have:=cVs_length hz2; simp at this; omega) h1 h2 h3 g hd hN (rd_ok g hx) hb hbs he hn
    · cases he
  · cases he

theorem op_storeQ (g : Gam N w0 ok0 st ok ρ a w) (hd : o.dst=none) {t t1 : TypeId} {ad x : Operand} {p x' : X} {n lo : Nat} (ho : o.op=.store t ad x) (hp : cX P t1 ad=some p) (hx : cX P t x=some x') (hs : size? P t=some (n+1))
    (he : storeQ lo st (n+1) (x'.rd st.env) (p.rd st.env)=some st') (hn : Into N w0 ok0 st' next) : o.wpIn (FR rd) 0 P a w next Q:=by
  have h1:=rd_ok g hp
  have h2:=rd_ok g hx
  generalize p.rd st.env=lp at he h1
  generalize hlx : x'.rd st.env=lx at he h2
  unfold storeQ at he
  split at he
  · exact store_ok g hd ho hs h1 h2 he hn
  · unfold storeV at he
    split at he
    · rename_i id2 len id off
      split at he
      · rename_i hn1
        obtain rfl : n=0:=by omega
        generalize off * 1000000+len=nid at he
        unfold putO at he
        split at he
        · rename_i e sz rows cs hid2 hnone hid
          split at he
          · rename_i hc
            obtain ⟨hpos,hlen,hoff⟩:=hc
            obtain rfl:=Option.some.inj he
            have hv:=h2
            simp only [LRep,hid2,SRep] at hv
            obtain ⟨ad',cap,e1,q3,q4,q5,q6⟩:=hv
            rcases g.obj id2 _ hid2 with ⟨_,r2⟩ | ⟨b,K,cur,h10,h11,h12,h13,h14,h15⟩
            · exfalso; subst r2; simp at hlen; omega
            · have hk0 : (upd st.hp id2 (some .dead)) nid=none:=by
                rw [upd_ne _ _ (fun e => by rw [e,hid2] at hnone; cases hnone)]; exact hnone
              have hself:=setRow_self w b cur e (0,0) h11
              have g1:=g.moveIn hk0 hid2 rfl (o':=.arr false e sz rows) rfl h10 (K':=K) cur (by
                rw [hself]
                exact .inr ⟨b,K,cur,upd_same _ _ _,h11,h12,h13,h14,h15⟩)
              rw [hself] at g1
              have hmv:=later_move (ρ:=ρ) hk0 (some (b,K)) (.arr false e sz rows)
              have hne2 : id≠id2:=fun e => by rw [e,hid2] at hid; cases hid
              have hne1 : id≠nid:=fun e => by rw [e,hnone] at hid; cases hid
              refine store_ok g1 hd ho hs (lp:=.p id off) (lx:=.s nid 0 len) (h1.to (Same.refl w ok) hmv) ?_ ?_ hn
              · simp only [LRep, SRep, upd_same]
                refine ⟨ad',cap,e1,q3,q4,q5,?_⟩
                rcases q6 with ⟨k1,_⟩ | ⟨b',K',k1,k2⟩
                · rw [h10] at k1; cases k1
                · rw [h10] at k1
                  obtain ⟨rfl,rfl⟩ : b=b'∧K=K':=by simpa using k1
                  exact .inr ⟨b,K,rfl,k2⟩
              · show storeP _ id off 1 [_] (upd (upd st.hp id2 _) nid _ id) = _
                rw [upd_ne _ _ hne1,upd_ne _ _ hne2,hid]
                exact if_pos ⟨hoff,rfl⟩
          · cases he
        · cases he
      · cases he
    · exact store_ok g hd ho hs h1 h2 he hn
end
end Go.Proofs.Ytcecojdeljbjoaa.Sx
namespace Go.Proofs.Ytcecojdeljbjoaa.Sx
open Go Go.RowKit
section
variable {P : Program} {N : Rm} {w0 : World} {ok0 : Nat→Prop} {st st' : St} {ok : Nat→Prop} {ρ : Rho} {a : Act} {w w' : World}
  {next : Act→World→Prop} {Q : Exit→Act→World→Prop} {o : Oper} {rd : Option Nat}

theorem RowsAre.drop {sz : Nat} {rows : List (List TV)} {vs : List Value} (h : RowsAre w ok sz rows vs) (k : Nat) : RowsAre w ok sz (rows.drop k) (vs.drop (k * sz)):=by
  refine ⟨?_,fun v hv => h.2.1 v (List.mem_of_mem_drop hv),fun i r hi => ?_⟩
  · rw [List.length_drop,List.length_drop,h.1,Nat.sub_mul]
  · rw [List.getElem?_drop] at hi
    refine ⟨(h.2.2 _ r hi).1,fun j t hj => ?_⟩
    obtain ⟨v,k1,k2⟩:=(h.2.2 _ r hi).2 j t hj
    refine ⟨v,?_,k2⟩
    rw [List.getElem?_drop,← Nat.add_assoc,← Nat.add_mul]
    exact k1

theorem op_copy (g : Gam N w0 ok0 st ok ρ a w) {d : Nat} (hd : o.dst=some d) (hN : N.may d) {t u e t1 t2 : TypeId} {x y : Operand} {x' y' : X} {sz : Nat}
    (ho : o.op=.call { callee:=.builtin .copy,args:=#[x,y],argTypes:=#[t,u] }) (hx : cX P t1 x=some x') (hy : cX P t2 y=some y') (ht : P.underlying t=some (.slice e)) (hs : size? P e=some sz)
    (he : copyK st d sz (x'.rd st.env) (rowsOf st.hp (y'.rd st.env))=some st') (hn : Into N w0 ok0 st' next) : o.wpIn (FR rd) 0 P a w next Q:=by
  unfold copyK at he
  split at he
  · rename_i sz' new hrows
    split at he
    · rename_i hsz
      subst hsz
      obtain ⟨news,h1,h2,h3⟩:=rowsOf_ok (P:=P) g hrows (rd_ok g hy)
      have hxr:=rd_ok g hx
      generalize x'.rd st.env=l at he hxr
      unfold copyL at he
      split at he
      · rename_i id off len
        unfold copyO at he
        split at he
        · rename_i e' sz'' rows hid
          split at he
          · rename_i hsz2
            subst hsz2
            obtain rfl:=Option.some.inj he
            simp only [LRep,hid,SRep] at hxr
            obtain ⟨ad,cap,e1,k3,k4,k5,k6⟩:=hxr
            have hmin : Nat.min new.length len≤new.length:=Nat.min_le_left _ _
            have hfirst:=h3 w (Nat.min new.length len) rfl hmin
            have hcells : (news.take (Nat.min new.length len * sz'')).length=Nat.min new.length len * sz'':=by
              rw [List.length_take,h1.1]
              exact Nat.min_eq_left (Nat.mul_le_mul_right _ hmin)
            have hlent:=h2 w
            have hml : Nat.min new.length len≤len:=Nat.min_le_right _ _
            generalize hm : Nat.min new.length len=m at *
            have hm' : min new.length len=m:=hm
            rcases k6 with ⟨r1,r2,r3⟩ | ⟨b,K,r1,r2,r3⟩
            · have hl0 : len = 0 := by omega
              have hm0 : m=0:=by omega
              rcases g.obj id _ hid with ⟨_,rfl⟩ | ⟨b',K',cur,h10,_⟩
              · refine ok_val g hd hN (v := goInt m) (l := .v (.int .i64 m)) ?_ (lrep_v trep_int) ?_
                · subst hm0
                  cases ad<;>simp [execOp,ho,resolve,invoke,builtin,e1,Builtin.copy_,run_underlying ht,hlent,run_sizeOf w hs,hm,hfirst,storeCells]
                · have hst : ({ env:=upd st.env d (.v (.int .i64 (min new.length len : Nat))),hp:=upd st.hp id (some (.arr false e' sz'' (List.take off []++List.take (min new.length len) new++List.drop (off+min new.length len) []))) } : St)=st.set d (.v (.int .i64 m)):=by
                    simp only [St.set,hm']
                    congr 1
                    funext j
                    simp only [upd]
                    split
                    · rename_i ej
                      subst ej
                      rw [hid,hm0]
                      simp
                    · rfl
                  rw [hst] at hn
                  exact hn
              · rw [r1] at h10; cases h10
            · rcases g.obj id _ hid with ⟨h10, _⟩ | ⟨b', K', cur, h10, h11, h12, h13, h14, h15⟩
              · rw [r1] at h10; cases h10
              · rw [r1] at h10
                obtain ⟨rfl,rfl⟩ : b=b'∧K=K':=by simpa using h10
                obtain ⟨vs,j1,j2⟩:=h15.are
                have hnb : ∀ c,ok c→c≠b:=fun c hc' e'' => (g.free c hc').2 id _ K hid rfl (e'' ▸ r1)
                have hone : ∀ v∈news.take (m * sz''),v.oneCell'=true:=fun v hv => h1.2.1 v (List.mem_of_mem_take hv)
                have hfitR : off * sz''+m * sz''≤rows.length * sz'':=by rw [← Nat.add_mul]; exact Nat.mul_le_mul_right _ (by omega)
                have hcur : rows.length * sz''≤cur.size:=by rw [h12]; exact Nat.mul_le_mul_right _ h14
                have hs' : Same w (w.setRow b (cur.toList.take (off * sz'')++news.take (m * sz'')++cur.toList.drop (off * sz''+m * sz'')).toArray) ok ok:=fun c hc' => ⟨setRow_other w b c _ (hnb c hc'),hc'⟩
                have hst:=run_storeCells_at P b (off * sz'') e' (news.take (m * sz'')) 0 cur w h11 (by rw [hcells]; omega) hone
                simp only [Nat.add_zero,hcells] at hst
                have hrun : (execOp a.eval o).run P w=.ok (.value (.int .i64 m)) (w.setRow b (cur.toList.take (off * sz'')++news.take (m * sz'')++cur.toList.drop (off * sz''+m * sz'')).toArray):=by
                  rcases r3 with rfl | ⟨r3,r4⟩
                  · simp [execOp,ho,resolve,invoke,builtin,e1,Builtin.copy_,run_underlying ht,hlent,run_sizeOf w hs,hm,hfirst,hst,goInt]
                  · have hm0 : m = 0 := by omega
                    subst hm0
                    have hsame : w.setRow b (cur.toList.take (off * sz'')++news.take (0 * sz'')++cur.toList.drop (off * sz''+0 * sz'')).toArray=w:=by
                      have:=setRow_self w b cur e' (0,0) h11
                      simpa using this
                    rw [hsame]
                    cases ad<;>simp [execOp,ho,resolve,invoke,builtin,e1,Builtin.copy_,run_underlying ht,hlent,run_sizeOf w hs,hm,hfirst,storeCells,goInt]
                have hrl : rows.length≤(rows.take off++new.take m++rows.drop (off+m)).length:=by simp; omega
                refine wp_val hrun ?_
                rw [hd]
                have hstd : ({ env:=upd st.env d (.v (.int .i64 (min new.length len : Nat))),hp:=upd st.hp id (some (.arr false e' sz'' (List.take off rows++List.take (min new.length len) new++List.drop (off+min new.length len) rows))) } : St) =
                    ({ st with hp:=upd st.hp id (some (.arr false e' sz'' (List.take off rows++List.take m new++List.drop (off+m) rows))) } : St).set d (.v (.int .i64 m)):=by
                  simp only [St.set,hm']
                rw [hstd] at hn
                refine hn _ _ _ _ ((g.write hid rfl (o':=.arr false e' sz'' (rows.take off++new.take m++rows.drop (off+m))) rfl r1 (.inr ⟨_,_,_,_,_,_,_,rfl,rfl,hrl⟩) _ ?_).put hN (lrep_v trep_int))
                refine .inr ⟨b,K,_,r1,setRow_same w b cur _ e' h11,?_,h13,by simp; omega,((((j1.take off).append (h1.take m)).append (j1.drop (off+m))).to hs').rep (setRow_same w b cur _ e' h11) ?_⟩
                · simp only [List.size_toArray, List.length_append, hcells, List.length_take, List.length_drop, Array.length_toList]
                  omega
                · intro j v hj
                  have hvl:=j1.1
                  have hvc : ∀ j v,vs[j]?=some v→cur[j]?=some v:=fun j v hj => by
                    have:=j2 j v hj
                    rw [cell_of_row w b (0+j) cur e' (0,0) h11] at this
                    simpa using this
                  simp only [List.getElem?_toArray]
                  have hsp:=splice_get cur.toList (news.take (m * sz'')) (off * sz'') j (by rw [hcells]; simp; omega)
                  rw [hcells] at hsp
                  rw [hsp]
                  by_cases c1 : j < off * sz''
                  · rw [if_neg (by omega)]
                    rw [List.getElem?_append_left (by simp; omega),List.getElem?_append_left (by simp; omega),List.getElem?_take,if_pos c1] at hj
                    simpa using hvc j v hj
                  · by_cases c2 : j < off * sz'' + m * sz''
                    · rw [if_pos ⟨by omega, c2⟩]
                      rw [List.getElem?_append_left (by simp [hcells]; omega),List.getElem?_append_right (by simp; omega)] at hj
                      have e : j - (vs.take (off * sz'')).length=j - off * sz'':=by simp; omega
                      rw [e] at hj
                      exact hj
                    · rw [if_neg (by omega)]
                      rw [List.getElem?_append_right (by simp [hcells]; omega),List.getElem?_drop] at hj
                      have e : (off+m) * sz''+(j - (vs.take (off * sz'')++news.take (m * sz'')).length)=j:=by
                        simp only [List.length_append,hcells,List.length_take,Nat.add_mul]
                        omega
                      rw [e] at hj
                      simpa using hvc j v hj
          · cases he
        · cases he
      · cases he
    · cases he
  · cases he

theorem bytesOf_ok : ∀ {rows : List (List TV)} {bs : List UInt8},bytesOf rows=some bs→∃ ns : List Int,rows=ns.map (fun n => [TV.int .u8 n])∧bs=ns.map (fun n => UInt8.ofNat n.toNat)
  | [],bs,h => by simp only [bytesOf,Option.some.injEq] at h; subst h; exact ⟨[],rfl,rfl⟩
  | r :: rs, bs, h => by
    have key : ∃ n,r=[.int .u8 n]:=by
      cases r with
      | nil => simp [bytesOf] at h
      | cons c cs => cases cs with
        | cons c' cs => simp [bytesOf] at h
        | nil => cases c with
          | int k n => cases k<;>first | exact ⟨n,rfl⟩ | simp [bytesOf] at h
          | _ => simp [bytesOf] at h
    obtain ⟨n,rfl⟩:=key
    simp only [bytesOf] at h
    cases hb : bytesOf rs with
    | none => rw [hb] at h; cases h
    | some b =>
      rw [hb] at h
      obtain rfl:=Option.some.inj h
      obtain ⟨ns,h1,h2⟩:=bytesOf_ok hb
      exact ⟨n :: ns,by simp [h1],by simp [h2]⟩
theorem foldl_push (ns : List Int) : ∀ s : ByteArray,(ns.foldl (fun r n => r.push (UInt8.ofNat n.toNat)) s)=⟨s.data++(ns.map (fun n => UInt8.ofNat n.toNat)).toArray⟩:=by
  induction ns with
  | nil => intro s; simp
  | cons n ns ih =>
    intro s
    rw [List.foldl_cons,ih]
    simp [ByteArray.push]

theorem rowsB_of {h : Hp} {l : LV} {r : Nat × List (List TV)} (e : rowsB h l=some r) : rowsOf h l=some r:=by
  unfold rowsB at e
  split at e
  · exact e
  · exact e
  · cases e
theorem op_b2s (g : Gam N w0 ok0 st ok ρ a w) {d : Nat} (hd : o.dst=some d) (hN : N.may d) {src dst e t1 : TypeId} {x : Operand} {x' : X} (ho : o.op=.convert src dst x) (hx : cX P t1 x=some x')
    (hs : P.underlying src=some (.slice e)) (he8 : P.underlying e=some (.int .u8)) (hdst : P.underlying dst=some .string)
    (he : setV st d (b2sK (rowsB st.hp (x'.rd st.env)))=some st') (hn : Into N w0 ok0 st' next) : o.wpIn (FR rd) 0 P a w next Q:=by
  obtain ⟨r,hr,rfl⟩:=setV_some he
  unfold b2sK at hr
  split at hr
  · rename_i rows hrowsB
    have hns : ∀ z,x'.rd st.env≠.v (.str z):=fun z e => by rw [e] at hrowsB; cases hrowsB
    have hrows:=rowsB_of hrowsB
    obtain ⟨news,h1,h2,h3⟩:=rowsOf_ok (P:=P) g hrows (rd_ok g hx)
    cases hb : bytesOf rows with
    | none => rw [hb] at hr; cases hr
    | some bs =>
      rw [hb] at hr
      obtain rfl:=Option.some.inj hr
      obtain ⟨ns,rfl,rfl⟩:=bytesOf_ok hb
      have hnews : news=ns.map (Value.int .u8):=by
        apply List.ext_getElem?
        intro i
        rcases Nat.lt_or_ge i ns.length with hi | hi
        · obtain ⟨v, k1, k2⟩ := (h1.2.2 i [TV.int .u8 ns[i]] (by simp [hi])).2 0 _ rfl
          simp only [TRep] at k2
          subst k2
          simp at k1
          rw [k1]
          simp [hi]
        · have hl := h1.1
          simp at hl
          rw [List.getElem?_eq_none (by omega),List.getElem?_eq_none (by simpa using hi)]
      obtain ⟨ad,cap,hev⟩ : ∃ ad cap,a.eval x=.slice ad ns.length cap:=by
        have hxr:=rd_ok g hx
        generalize x'.rd st.env=l at hrows hxr hns
        unfold rowsOf at hrows
        split at hrows
        · simp only [Option.some.injEq, Prod.mk.injEq] at hrows
          obtain ⟨ad,cap,e1,_⟩:=sl_form hxr
          rw [hrows.2] at e1
          exact ⟨ad,cap,by simpa using e1⟩
        · exact absurd rfl (hns _)
        · rename_i id off len
          unfold rowsS at hrows
          split at hrows
          · rename_i hid
            simp only [Option.some.injEq,Prod.mk.injEq] at hrows
            simp only [LRep,hid,SRep] at hxr
            obtain ⟨ad,cap,e1,k3,_⟩:=hxr
            have:=congrArg List.length hrows.2
            simp at this
            exact ⟨ad,cap,by rw [e1]; congr 1; omega⟩
          · cases hrows
        · cases hrows
      have hlast:=h3 w ns.length rfl (by simp)
      rw [hev,hnews] at hlast
      refine ok_val g hd hN (v:=.string _) ?_ (lrep_v trep_str) hn
      cases ad with
      | none =>
        have hz : ns=[]:=by
          have hlm : (ns.map (Value.int .u8)).take ns.length=ns.map (Value.int .u8):=List.take_of_length_le (by simp)
          simp only [Builtin.firstCells,Sem.run_pure,Nat.mul_one,hlm] at hlast
          have:=Result.ok.inj hlast
          have:=this.1
          cases ns with
          | nil => rfl
          | cons n ns => simp at this
        subst hz
        simp [execOp,ho,hev,run_convert_bytes_string w src dst e none 0 cap hs he8 hdst,Conv.bytesToString]
        rfl
      | some ad =>
        have hlm : (ns.map (Value.int .u8)).take ns.length=ns.map (Value.int .u8):=List.take_of_length_le (by simp)
        simp only [Builtin.firstCells,Nat.mul_one,hlm] at hlast
        have:=run_bytesToString (P:=P) w ad ns.length cap ns hlast
        rw [foldl_push] at this
        simp [execOp,ho,hev,run_convert_bytes_string w src dst e (some ad) ns.length cap hs he8 hdst,this]
  · cases hr

theorem minGo_ok {k : IntKind} : ∀ {ls : List LV} {xs : List Value} {m : Int} {r : LV},LReps w ok ρ st.hp false ls xs→minGo k m ls=some r→∃ v,(xs.foldlM Builtin.min2 (.int k m)).run P w=.ok v w∧LRep w ok ρ st.hp r v
  | [], xs, m, r, h, hm => by
    simp only [LReps] at h
    subst h
    simp only [minGo,Option.some.injEq] at hm
    subst hm
    exact ⟨.int k m,rfl,lrep_v trep_int⟩
  | l :: ls, xs, m, r, h, hm => by
    simp only [LReps] at h
    obtain ⟨v,xs',rfl,_,h3,h4⟩:=h
    have key : ∃ k' y,l=.v (.int k' y):=by
      cases l with
      | v t => cases t with
        | int k' y => exact ⟨k',y,rfl⟩
        | _ => simp [minGo] at hm
      | _ => simp [minGo] at hm
    obtain ⟨k',y,rfl⟩:=key
    simp only [minGo] at hm
    have e1:=lv_int h3
    subst e1
    obtain ⟨v,h5,h6⟩:=minGo_ok h4 hm
    exact ⟨v,by simpa [List.foldlM_cons,Builtin.min2] using h5,h6⟩
theorem maxGo_ok {k : IntKind} : ∀ {ls : List LV} {xs : List Value} {m : Int} {r : LV},LReps w ok ρ st.hp false ls xs→maxGo k m ls=some r→∃ v,(xs.foldlM Builtin.max2 (.int k m)).run P w=.ok v w∧LRep w ok ρ st.hp r v
  | [], xs, m, r, h, hm => by
    simp only [LReps] at h
    subst h
    simp only [maxGo,Option.some.injEq] at hm
    subst hm
    exact ⟨.int k m,rfl,lrep_v trep_int⟩
  | l :: ls, xs, m, r, h, hm => by
    simp only [LReps] at h
    obtain ⟨v,xs',rfl,_,h3,h4⟩:=h
    have key : ∃ k' y,l=.v (.int k' y):=by
      cases l with
      | v t => cases t with
        | int k' y => exact ⟨k',y,rfl⟩
        | _ => simp [maxGo] at hm
      | _ => simp [maxGo] at hm
    obtain ⟨k',y,rfl⟩:=key
    simp only [maxGo] at hm
    have e1:=lv_int h3
    subst e1
    obtain ⟨v,h5,h6⟩:=maxGo_ok h4 hm
    exact ⟨v,by simpa [List.foldlM_cons,Builtin.max2] using h5,h6⟩
theorem op_mn (g : Gam N w0 ok0 st ok ρ a w) {d : Nat} (hd : o.dst=some d) (hN : N.may d) {ts : Array TypeId} {us : List TypeId} {xs : Array Operand} {ys : List X} (ho : o.op=.call { callee:=.builtin .min,args:=xs,argTypes:=ts }) (hx : cXs P us xs.toList=some ys)
    (he : setM st d (foldMin (rds st.env ys))=some st') (hn : Into N w0 ok0 st' next) : o.wpIn (FR rd) 0 P a w next Q:=by
  obtain ⟨r,hr,rfl⟩:=setM_some he
  have h:=rds_ok g hx
  generalize rds st.env ys=ls at hr h
  generalize hxs : xs.toList.map a.eval=vs at h
  unfold foldMin at hr
  split at hr
  · simp only [LReps] at h
    obtain ⟨v,vs',rfl,_,h3,h4⟩:=h
    have e1:=lv_int h3
    subst e1
    obtain ⟨v,h5,h6⟩:=minGo_ok (P:=P) h4 hr
    refine ok_val g hd hN (v:=v) ?_ h6 hn
    simp [execOp,ho,resolve,invoke,builtin,Builtin.min_,hxs,h5]
  · cases hr
theorem op_mx (g : Gam N w0 ok0 st ok ρ a w) {d : Nat} (hd : o.dst=some d) (hN : N.may d) {ts : Array TypeId} {us : List TypeId} {xs : Array Operand} {ys : List X} (ho : o.op=.call { callee:=.builtin .max,args:=xs,argTypes:=ts }) (hx : cXs P us xs.toList=some ys)
    (he : setM st d (foldMax (rds st.env ys))=some st') (hn : Into N w0 ok0 st' next) : o.wpIn (FR rd) 0 P a w next Q:=by
  obtain ⟨r,hr,rfl⟩:=setM_some he
  have h:=rds_ok g hx
  generalize rds st.env ys=ls at hr h
  generalize hxs : xs.toList.map a.eval=vs at h
  unfold foldMax at hr
  split at hr
  · simp only [LReps] at h
    obtain ⟨v,vs',rfl,_,h3,h4⟩:=h
    have e1:=lv_int h3
    subst e1
    obtain ⟨v,h5,h6⟩:=maxGo_ok (P:=P) h4 hr
    refine ok_val g hd hN (v:=v) ?_ h6 hn
    simp [execOp,ho,resolve,invoke,builtin,Builtin.max_,hxs,h5]
  · cases hr

theorem op_mkslice (g : Gam N w0 ok0 st ok ρ a w) {d : Nat} (hd : o.dst=some d) (hN : N.may d) {t e t1 t2 : TypeId} {x y : Operand} {x' y' : X} {lo : Nat} {i : TypeInfo} {zs : List TV} (ho : o.op=.makeSlice t x y) (hx : cX P t1 x=some x') (hy : cX P t2 y=some y')
    (ht : P.underlying t=some (.slice e)) (hi : P.info? e=some i) (hz : zeroT P e=some zs) (hzl : zs.length=i.size) (hb : 0 < i.bytes) (hsz : 0 < i.size)
    (he : mksK lo st d e zs i.bytes (x'.rd st.env) (y'.rd st.env)=some st') (hn : Into N w0 ok0 st' next) : o.wpIn (FR rd) 0 P a w next Q:=by
  have h1:=rd_ok g hx
  have h2:=rd_ok g hy
  generalize x'.rd st.env=l1 at he h1
  generalize y'.rd st.env=l2 at he h2
  unfold mksK at he
  split at he
  · rename_i n c
    split at he
    · rename_i hc
      obtain ⟨h0,rfl,hby⟩:=hc
      have e1:=lv_int h1
      have e2:=lv_int h2
      obtain ⟨z,hz1,hz2⟩:=zeroT_some hz
      have hzc:=cVs_ok (w:=w) (ok:=ok) (ρ:=ρ) (st:=st) hz2
      have hzlen:=cVs_length hz2
      simp only [Array.length_toList] at hzlen
      have hz1' : i.zero=some z:=by rw [hi] at hz1; exact hz1
      have hnb : c≤140737488355328:=by
        have : c * 1≤c * (i.bytes : Int):=Int.mul_le_mul_of_nonneg_left (by omega) h0
        omega
      have hrun:=run_make (P:=P) w t e i z ht hi hz1' .i64 .i64 c c h0 (Int.le_refl _) (by rw [Int.mul_comm]; omega) (by omega)
      have hval : ValsRep w ok true zs z.cells.toList:=ValsRep.of (by simpa using hzlen.symm) fun j t' hj => by
        obtain ⟨v,k1,k2,k3⟩:=hzc.get j (.v t') (by
          have : ∀ (zs : List TV) (j : Nat) (t' : TV),zs[j]?=some t'→(liftV zs)[j]?=some (.v t'):=by
            intro zs
            induction zs with
            | nil => intro j t' h; simp at h
            | cons q qs ih => intro j t' h; cases j with
              | zero => simpa [liftV] using h
              | succ j => simpa [liftV] using ih j t' (by simpa using h)
          exact this zs j t' hj)
        exact ⟨v,k1,k2,by simpa only [LRep] using k3⟩
      have hone:=RowsAre.one hval
      have hall : ∀ m : Nat,RowsAre w ok zs.length (List.replicate m zs) (List.replicate m z.cells.toList).flatten:=by
        intro m
        induction m with
        | zero => exact RowsAre.nil
        | succ m ih => simpa [List.replicate_succ] using hone.append ih
      have hsz' : 0 < z.cells.size:=by omega
      refine ok_arr g hd hN he (cap:=c.toNat) (w1:=w) (cur:=madeCells z.cells (c.toNat * i.size)) (vs:=(List.replicate c.toNat z.cells.toList).flatten) ?_ (.inl rfl) (hall c.toNat) ?_ (by rw [size_madeCells,hzl]) (by simp only [maxLen]; omega) (by simp) (by simp) hn
      · simp [execOp,ho,e1,e2,hrun]
      · intro j v hj
        have hjl:=(List.getElem?_eq_some_iff.1 hj).1
        have lenR : ∀ m : Nat,(List.replicate m z.cells.toList).flatten.length=m * z.cells.size:=fun m => by
          induction m with
          | zero => simp
          | succ m ih => rw [List.replicate_succ,List.flatten_cons,List.length_append,ih,Nat.add_mul,Nat.one_mul,Array.length_toList,Nat.add_comm]
        have hl : (List.replicate c.toNat z.cells.toList).flatten.length=c.toNat * i.size:=by rw [lenR,← hzlen,hzl]
        have hgetR : ∀ (m j : Nat),j < m * z.cells.size→(List.replicate m z.cells.toList).flatten[j]?=z.cells.toList[j % z.cells.size]?:=fun m => by
          induction m with
          | zero => intro j hj; simp at hj
          | succ m ih =>
            intro j hj
            rw [Nat.add_mul,Nat.one_mul] at hj
            rw [List.replicate_succ,List.flatten_cons]
            by_cases hlt : j < z.cells.size
            · rw [List.getElem?_append_left (by simpa using hlt),Nat.mod_eq_of_lt hlt]
            · rw [List.getElem?_append_right (by simpa using hlt),Array.length_toList,ih (j - z.cells.size) (by omega),Nat.mod_eq_sub_mod (show j ≥ z.cells.size by omega)]
        have hget:=hgetR c.toNat j (by rw [← lenR]; exact hjl)
        rw [hget] at hj
        have hlt : j % z.cells.size < z.cells.size:=Nat.mod_lt _ hsz'
        have hj2 : j < c.toNat * i.size:=by omega
        simp only [madeCells,Array.getElem?_map]
        rw [Array.getElem?_eq_getElem (by simpa using hj2)]
        simp only [Option.map_some,Array.getElem_range]
        rw [← hj]
        simp [hlt]
    · cases he
  · cases he
end
end Go.Proofs.Ytcecojdeljbjoaa.Sx
namespace Go.Proofs.Ytcecojdeljbjoaa.Sx
open Go Go.RowKit
section
variable {P : Program} {N : Rm} {w0 : World} {ok0 : Nat→Prop} {st st' : St} {ok : Nat→Prop} {ρ : Rho} {a : Act} {w w' : World}
  {next : Act→World→Prop} {Q : Exit→Act→World→Prop} {o : Oper} {rd : Option Nat}

def eqVal : Lk→Value→Value→Option Bool
  | .i,.int k a,.int k' b => if k=k' then some (a == b) else none
  | .b,.bool a,.bool b => some (a == b)
  | .z,.string a,.string b => some (a.toList == b.toList)
  | _,_,_ => none
def eqVals : List Lk→List Value→List Value→Option Bool
  | [],[],[] => some true
  | k :: ks,x :: xs,y :: ys => andO (eqVal k x y) (eqVals ks xs ys)
  | _,_,_ => none

theorem andO_some {x y : Option Bool} {r : Bool} (h : andO x y=some r) : ∃ p q,x=some p∧y=some q∧r=(p && q):=by
  unfold andO at h
  split at h
  · exact ⟨_,_,rfl,rfl,(Option.some.inj h).symm⟩
  · cases h

theorem eqCell_val {k : Lk} {x y : LV} {r : Bool} (h : eqCell k x y=some r) {u v : Value} (hu : LRep w ok ρ st.hp x u) (hv : LRep w ok ρ st.hp y v) : eqVal k u v=some r:=by
  unfold eqCell at h
  split at h
  · rw [lv_int hu,lv_int hv]; exact h
  · rw [lv_bool hu,lv_bool hv]; exact h
  · rw [lv_str hu,lv_str hv]; exact h
  · cases h
theorem eqCells_vals : ∀ {ks : List Lk} {xs ys : List LV} {r : Bool},eqCells ks xs ys=some r→∀ {us vs : List Value},LReps w ok ρ st.hp true xs us→LReps w ok ρ st.hp true ys vs→eqVals ks us vs=some r
  | [], [], [], r, h, us, vs, hu, hv => by
    simp only [LReps] at hu hv
    subst hu
    subst hv
    exact h
  | k :: ks, x :: xs, y :: ys, r, h, us, vs, hu, hv => by
    simp only [eqCells] at h
    obtain ⟨p,q,h1,h2,rfl⟩:=andO_some h
    simp only [LReps] at hu hv
    obtain ⟨u,us',rfl,_,u3,u4⟩:=hu
    obtain ⟨v,vs',rfl,_,v3,v4⟩:=hv
    simp only [eqVals,eqCell_val h1 u3 v3,eqCells_vals h2 u4 v4,andO]
  | [],_ :: _,_,r,h,_,_,_,_ => by simp [eqCells] at h
  | [],[],_ :: _,r,h,_,_,_,_ => by simp [eqCells] at h
  | _ :: _,[],_,r,h,_,_,_,_ => by simp [eqCells] at h
  | _ :: _,_ :: _,[],r,h,_,_,_,_ => by simp [eqCells] at h

theorem eqVals_append : ∀ {k1 k2 : List Lk} {xs ys : List Value} {r : Bool},eqVals (k1++k2) xs ys=some r →
    ∃ p q,eqVals k1 (xs.take k1.length) (ys.take k1.length)=some p∧eqVals k2 (xs.drop k1.length) (ys.drop k1.length)=some q∧r=(p && q)
  | [],k2,xs,ys,r,h => ⟨true,r,rfl,h,by simp⟩
  | k :: k1, k2, x :: xs, y :: ys, r, h => by
    simp only [List.cons_append,eqVals] at h
    obtain ⟨p,q,h1,h2,rfl⟩:=andO_some h
    obtain ⟨p',q',h3,h4,rfl⟩:=eqVals_append h2
    exact ⟨p && p',q',by simp [eqVals,h1,h3,andO],by simpa using h4,by rw [Bool.and_assoc]⟩
  | _ :: _,_,[],_,r,h => by simp [eqVals] at h
  | _ :: _,_,_ :: _,[],r,h => by simp [eqVals] at h
theorem eqVals_length : ∀ {ks : List Lk} {xs ys : List Value} {r : Bool},eqVals ks xs ys=some r→xs.length=ks.length∧ys.length=ks.length
  | [],[],[],r,h => ⟨rfl,rfl⟩
  | k :: ks, x :: xs, y :: ys, r, h => by
    simp only [eqVals] at h
    obtain ⟨p,q,h1,h2,rfl⟩:=andO_some h
    have:=eqVals_length h2
    simp [this.1,this.2]
  | [],_ :: _,_,r,h => by simp [eqVals] at h
  | [],[],_ :: _,r,h => by simp [eqVals] at h
  | _ :: _,[],_,r,h => by simp [eqVals] at h
  | _ :: _,_ :: _,[],r,h => by simp [eqVals] at h

theorem flatFs_sound {k : TypeId→Option (List Lk)} {d : Nat} (hk : ∀ t ks,k t=some ks→(∃ u,P.underlying t=some u)∧∀ (xs ys : List Value) (r : Bool) (w : World),eqVals ks xs ys=some r →
      (Op.equalIn d t (packV (isAggB P t) xs) (packV (isAggB P t) ys)).run P w=.ok r w) :
    ∀ {fs : List Field} {off : Nat} {ks : List Lk},flatFs P k fs off=some ks→∀ (xs ys : Array Value) (r : Bool) (w : World),eqVals ks (xs.toList.drop off) (ys.toList.drop off)=some r →
      (Op.eqFields d xs ys fs).run P w=.ok r w
  | [], off, ks, h, xs, ys, r, w, he => by
    simp only [flatFs,Option.some.injEq] at h
    subst h
    obtain rfl : true=r:=by
      have:=eqVals_length he
      have h1 : xs.toList.drop off=[]:=List.eq_nil_of_length_eq_zero this.1
      have h2 : ys.toList.drop off=[]:=List.eq_nil_of_length_eq_zero this.2
      rw [h1,h2] at he
      simpa [eqVals] using he
    rfl
  | f :: fs, off, ks, h, xs, ys, r, w, he => by
    simp only [flatFs] at h
    split at h
    · rename_i k1 k2 h1 h2
      split at h
      · rename_i hc
        obtain ⟨hname,hoff,hsz,hag,hpos⟩:=hc
        obtain rfl:=Option.some.inj h
        obtain ⟨⟨u,hu⟩,hrun⟩:=hk _ _ h1
        obtain ⟨p,q,e1,e2,rfl⟩:=eqVals_append he
        rw [List.drop_drop,List.drop_drop] at e2
        rw [hsz] at h2
        have hlen:=eqVals_length he
        simp only [List.length_append,List.length_drop,Array.length_toList] at hlen
        have hl1:=eqVals_length e1
        simp only [List.length_take,List.length_drop,Array.length_toList] at hl1
        have hfx : f.offset+k1.length≤xs.size:=by omega
        have hfy : f.offset+k1.length≤ys.size:=by omega
        have px:=run_part (P:=P) w hu hsz xs f.offset hfx hag
        have py:=run_part (P:=P) w hu hsz ys f.offset hfy hag
        have ih:=flatFs_sound hk h2 xs ys q w e2
        rw [hoff] at px py
        have hr:=hrun _ _ p w e1
        simp only [Op.eqFields,hname,ne_eq,not_false_eq_true,if_true,Sem.run_bind,hoff,px,Result.andThen_ok,py,hr,Sem.run_ite]
        cases p with
        | true => simpa using ih
        | false => simp
      · cases h
    · cases h

theorem flatEq_sound : ∀ (n : Nat) {t : TypeId} {ks : List Lk},flatEq P n t=some ks→∀ d,n≤d→(∃ u,P.underlying t=some u)∧∀ (xs ys : List Value) (r : Bool) (w : World),eqVals ks xs ys=some r →
    (Op.equalIn d t (packV (isAggB P t) xs) (packV (isAggB P t) ys)).run P w=.ok r w
  | 0,t,ks,h,d,_ => by cases h
  | n + 1, t, ks, h, d, hd => by
    obtain ⟨d,rfl⟩ : ∃ e,d=e+1:=⟨d - 1,by omega⟩
    have leaf : ∀ {k : Lk} {u : TypeDesc},P.underlying t=some u→isAggB P t=false→(∀ x y r w,eqVal k x y=some r→(Op.equalIn (d+1) t x y).run P w=.ok r w) →
        ∀ (xs ys : List Value) (r : Bool) (w : World),eqVals [k] xs ys=some r→(Op.equalIn (d+1) t (packV (isAggB P t) xs) (packV (isAggB P t) ys)).run P w=.ok r w:=by
      intro k u hu ha hx xs ys r w he
      obtain ⟨l1,l2⟩:=eqVals_length he
      match xs,ys,l1,l2,he with
      | [x], [y], _, _, he =>
        simp only [eqVals] at he
        obtain ⟨p,q,h1,h2,rfl⟩:=andO_some he
        obtain rfl:=Option.some.inj h2
        simp only [packV,ha,Bool.false_eq_true,if_false,List.headD_cons,Bool.and_true]
        exact hx x y p w h1
    simp only [flatEq] at h
    split at h
    · rename_i hu
      obtain rfl:=Option.some.inj h
      refine ⟨⟨_,hu⟩,leaf hu (by simp [isAggB,hu]) fun x y r w he => ?_⟩
      unfold eqVal at he
      split at he
      · cases ‹Lk.b=Lk.i›
      · rw [← Option.some.inj he]; exact run_equalIn_bool w d t _ _ hu
      · cases ‹Lk.b=Lk.z›
      · cases he
    · rename_i k0 hu
      obtain rfl:=Option.some.inj h
      refine ⟨⟨_,hu⟩,leaf hu (by simp [isAggB,hu]) fun x y r w he => ?_⟩
      unfold eqVal at he
      split at he
      · split at he
        · rename_i hkk
          subst hkk
          rw [← Option.some.inj he]; exact run_equalIn_int w d t _ k0 _ _ hu
        · cases he
      · cases ‹Lk.i=Lk.b›
      · cases ‹Lk.i=Lk.z›
      · cases he
    · rename_i hu
      obtain rfl:=Option.some.inj h
      refine ⟨⟨_,hu⟩,leaf hu (by simp [isAggB,hu]) fun x y r w he => ?_⟩
      unfold eqVal at he
      split at he
      · cases ‹Lk.z=Lk.i›
      · cases ‹Lk.z=Lk.b›
      · rw [← Option.some.inj he]; exact run_equalIn_string w d t _ _ hu
      · cases he
    · rename_i fs hu
      split at h
      · cases h
      · rename_i hst
        refine ⟨⟨_,hu⟩,fun xs ys r w he => ?_⟩
        have ha : isAggB P t=true:=by simp [isAggB,hu]
        have hfo : P.fieldsOf t=fs:=by simp [Program.fieldsOf,hu]
        simp only [packV,ha,if_true]
        rw [run_equalIn_struct w d t _ _ (by rw [hfo]; exact hu) (by simpa using hst),hfo]
        exact flatFs_sound (fun t ks h => flatEq_sound n h d (by omega)) h _ _ r w (by simpa using he)
    · cases h

theorem op_eqs (g : Gam N w0 ok0 st ok ρ a w) {d : Nat} (hd : o.dst=some d) (hN : N.may d) {t t1 t2 u : TypeId} {fs : Array Field} {op : BinOp} {neg : Bool} {ks : List Lk} {x y : Operand} {x' y' : X} (ho : o.op=.binOp op t x y u) (hop : op=if neg then .neq else .eql)
    (hx : cX P t1 x=some x') (hy : cX P t2 y=some y') (ht : P.underlying t=some (.struct fs)) (hk : flatEq P 10 t=some ks) (hg : P.eqGuardType P.depth t=false)
    (he : setV st d (eqL neg ks (x'.rd st.env) (y'.rd st.env))=some st') (hn : Into N w0 ok0 st' next) : o.wpIn (FR rd) 0 P a w next Q:=by
  obtain ⟨r,hr,rfl⟩:=setV_some he
  have h1:=rd_ok g hx
  have h2:=rd_ok g hy
  generalize x'.rd st.env=l1 at hr h1
  generalize y'.rd st.env=l2 at hr h2
  unfold eqL at hr
  split at hr
  · rename_i xs ys
    cases hb : eqCells ks xs ys with
    | none => rw [hb] at hr; cases hr
    | some b =>
      rw [hb] at hr
      obtain rfl:=Option.some.inj hr
      obtain ⟨us,e1,u1⟩:=agg_form h1
      obtain ⟨vs,e2,v1⟩:=agg_form h2
      have ha : isAggB P t=true:=by simp [isAggB,ht]
      have hrun:=(flatEq_sound 10 hk 10000 (by omega)).2 _ _ b w (eqCells_vals hb u1 v1)
      simp only [packV,ha,if_true] at hrun
      have hgd:=run_eqGuard_agg (P:=P) w op t x y us vs hg
      refine ok_val g hd hN (v:=.bool (if neg then !b else b)) ?_ (lrep_v trep_bool) hn
      cases neg with
      | false =>
        subst hop
        simp only [Bool.false_eq_true,if_false] at hgd ⊢
        simp [execOp,ho,e1,e2,hgd,run_eql_struct w t us vs]
        rw [show us=us.toList.toArray by simp,show vs=vs.toList.toArray by simp,hrun]
        rfl
      | true =>
        subst hop
        simp only [if_true] at hgd ⊢
        simp [execOp,ho,e1,e2,hgd,run_neq_struct w t us vs]
        rw [show us=us.toList.toArray by simp,show vs=vs.toList.toArray by simp,hrun]
        rfl
  · cases hr
end
end Go.Proofs.Ytcecojdeljbjoaa.Sx
