/- The evaluator's single operations are sound,the last lot: nil,append of zeros,maps. The evaluator's single operations are sound: a text cut,a text's bytes. What a call is known to do; a call in the evaluator is sound. A call of a function in the evaluator is sound. Every operation of the evaluator is sound. A region's operations,one behind the other. An operation of the evaluator looks at its footprint alone,and turns no more. Every operation is local; two that are apart go in either order. -/
import Derived.MapKept
import Derived.Laws.IdiomStrings
import Derived.Test.YtcecojdeljbjoaaSxG2
set_option maxRecDepth 100000
set_option linter.unusedSimpArgs false
set_option linter.unusedVariables false
namespace Go.Proofs.Ytcecojdeljbjoaa.Sx
open Go Go.RowKit
section
variable {P : Program} {N : Rm} {w0 : World} {ok0 : Nat→Prop} {st st' : St} {ok : Nat→Prop} {ρ : Rho} {a : Act} {w w' : World}
  {next : Act→World→Prop} {Q : Exit→Act→World→Prop} {o : Oper} {rd : Option Nat}

theorem one_cells' {x : Value} (h : x.oneCell'=true) : x.cells=#[x]:=by cases x<;>first | rfl | (simp [Value.oneCell'] at h)
/-! ### nil -/
theorem isnilS {l : LV} {r : Bool} (g : Gam N w0 ok0 st ok ρ a w) (h : isnilL false l=some r) {x : Value} (hl : LRep w ok ρ st.hp l x) : r=false∧∃ ad n c,x=.slice (some ad) n c:=by
  unfold isnilL at h
  split at h
  · obtain ⟨ad, cap, rfl, h2, h3, h4, h5⟩ := sl_form hl
    refine ⟨(Option.some.inj h).symm,?_⟩
    rcases h5 with h5 | ⟨b,o,rfl,_⟩
    · cases h5
    · exact ⟨_,_,_,rfl⟩
  · simp only [LRep] at hl
    obtain ⟨ad,cap,rfl,_,_,h3⟩:=hl.shape
    refine ⟨(Option.some.inj h).symm,?_⟩
    rcases h3 with h3 | h3
    · omega
    · obtain ⟨b, rfl⟩ := Option.isSome_iff_exists.1 h3
      exact ⟨_,_,_,rfl⟩
  all_goals first | (cases ‹false=true›; done) | (cases h; done)
theorem isnilP {l : LV} {r : Bool} (h : isnilL true l=some r) {x : Value} (hl : LRep w ok ρ st.hp l x) : r=false∧∃ ad,x=.pointer (some ad):=by
  unfold isnilL at h
  split at h
  · cases ‹true=false›
  · cases ‹true=false›
  · exact ⟨(Option.some.inj h).symm,lv_p hl⟩
  · exact ⟨(Option.some.inj h).symm,lv_pe hl⟩
  · simp only [LRep, TRep] at hl
    obtain ⟨b,o,rfl,_⟩:=hl
    exact ⟨(Option.some.inj h).symm,_,rfl⟩
  · cases h

theorem run_equalIn_sl {t e : TypeId} (hu : P.underlying t=some (.slice e)) (ad : Addr) (n c : Nat) (d : Nat) : (Op.equalIn (d+1) t (.slice (some ad) n c) (.slice none 0 0)).run P w=.ok false w:=by
  simp [Op.equalIn,run_underlying hu]
theorem run_equalIn_pt {t e : TypeId} (hu : P.underlying t=some (.pointer e)) (ad : Addr) (d : Nat) : (Op.equalIn (d+1) t (.pointer (some ad)) (.pointer none)).run P w=.ok false w:=by
  simp [Op.equalIn,run_underlying hu]
theorem run_nilS {t e : TypeId} (hu : P.underlying t=some (.slice e)) (ad : Addr) (n c : Nat) (neg : Bool) : (binOp (if neg then .neq else .eql) t (.slice (some ad) n c) (.slice none 0 0)).run P w=.ok (.bool (if neg then !false else false)) w:=by
  have h : (Op.equalIn 10000 t (.slice (some ad) n c) (.slice none 0 0)).run P w=.ok false w:=run_equalIn_sl (w:=w) hu ad n c 9999
  cases neg<;>simp [binOp,Op.equal,Op.maxDepth,h]
theorem run_nilP {t e : TypeId} (hu : P.underlying t=some (.pointer e)) (ad : Addr) (neg : Bool) : (binOp (if neg then .neq else .eql) t (.pointer (some ad)) (.pointer none)).run P w=.ok (.bool (if neg then !false else false)) w:=by
  have h : (Op.equalIn 10000 t (.pointer (some ad)) (.pointer none)).run P w=.ok false w:=run_equalIn_pt (w:=w) hu ad 9999
  cases neg<;>simp [binOp,Op.equal,Op.maxDepth,h]
theorem run_nilG (op : BinOp) (t : TypeId) (x y : Operand) {u v : Value} (h : (∃ a n c,u=.slice a n c)∨(∃ a,u=.pointer a)) : (eqGuard op t x y u v).run P w=.ok () w:=by
  rcases h with ⟨a,n,c,rfl⟩ | ⟨a,rfl⟩<;>cases op<;>simp [eqGuard]

theorem op_isnil (g : Gam N w0 ok0 st ok ρ a w) {d : Nat} (hd : o.dst=some d) (hN : N.may d) {t t1 u : TypeId} {x y : Operand} {x' : X} {neg ptr : Bool} (ho : o.op=.binOp (if neg then .neq else .eql) t x y u)
    (hx : cX P t1 x=some x') (hy : isNilC P t y=some ptr) (he : setV st d (nilB neg (isnilL ptr (x'.rd st.env)))=some st') (hn : Into N w0 ok0 st' next) : o.wpIn (FR rd) 0 P a w next Q:=by
  obtain ⟨r,hr,rfl⟩:=setV_some he
  have h1:=rd_ok g hx
  generalize x'.rd st.env=l at hr h1
  cases hb : isnilL ptr l with
  | none => rw [hb] at hr; cases hr
  | some b =>
    rw [hb] at hr
    obtain rfl:=Option.some.inj hr
    unfold isNilC at hy
    split at hy
    · split at hy
      · rename_i hu
        obtain rfl:=Option.some.inj hy
        obtain ⟨rfl,ad,n,c,e1⟩:=isnilS g hb h1
        refine ok_val g hd hN (v:=.bool (if neg then !false else false)) ?_ (lrep_v trep_bool) hn
        have hg:=run_nilG (P:=P) (w:=w) (if neg then .neq else .eql) t x (.const (.slice none 0 0)) (u:=.slice (some ad) n c) (v:=.slice none 0 0) (.inl ⟨_,_,_,rfl⟩)
        have hr:=run_nilS (P:=P) (w:=w) hu ad n c neg
        have hev : a.eval (.const (.slice none 0 0))=.slice none 0 0:=rfl
        simp only [execOp,ho,e1,hev,Sem.run_bind,hg,Result.andThen_ok,hr,Sem.run_pure]
      · cases hy
    · split at hy
      · rename_i hu
        obtain rfl:=Option.some.inj hy
        obtain ⟨rfl,ad,e1⟩:=isnilP hb h1
        refine ok_val g hd hN (v:=.bool (if neg then !false else false)) ?_ (lrep_v trep_bool) hn
        have hg:=run_nilG (P:=P) (w:=w) (if neg then .neq else .eql) t x (.const (.pointer none)) (u:=.pointer (some ad)) (v:=.pointer none) (.inr ⟨_,rfl⟩)
        have hr:=run_nilP (P:=P) (w:=w) hu ad neg
        have hev : a.eval (.const (.pointer none))=.pointer none:=rfl
        simp only [execOp,ho,e1,hev,Sem.run_bind,hg,Result.andThen_ok,hr,Sem.run_pure]
      · cases hy
    · cases hy

theorem op_allocM (g : Gam N w0 ok0 st ok ρ a w) {d : Nat} (hd : o.dst=some d) (hN : N.may d) {e : TypeId} (ho : o.op=.alloc e) (hz : zeroM P e=true) {lo : Nat}
    (he : mkO d (lo+d) (.var false [.u]) (.p (lo+d) 0) st=some st') (hn : Into N w0 ok0 st' next) : o.wpIn (FR rd) 0 P a w next Q:=by
  have hz' : ∃ z,(P.info? e).bind (·.zero)=some z∧z.oneCell'=true:=by
    unfold zeroM at hz
    split at hz
    · exact ⟨_,by assumption,rfl⟩
    · exact ⟨_,by assumption,rfl⟩
    · cases hz
  obtain ⟨z,hz1,hz2⟩:=hz'
  have hr:=run_alloc (P:=P) w hz1
  refine ok_var g hd hN he (cur:=z.cells) (ty:=e) ?_ ?_ hn
  · simp [execOp,ho,hr]
  · rw [one_cells' hz2]
    simp only [LReps]
    exact ⟨z,[],rfl,fun _ => hz2,by simp only [LRep],rfl⟩

/-! ### append of zeros to nothing -/
theorem zeros_vals {e : TypeId} {i : TypeInfo} {zs : List TV} (hi : P.info? e=some i) (hz : zeroT P e=some zs) : ∃ z,i.zero=some z∧zs.length=z.cells.size∧ValsRep w ok true zs z.cells.toList:=by
  obtain ⟨z,hz1,hz2⟩:=zeroT_some hz
  rw [hi] at hz1
  have hzl:=cVs_length hz2
  have hzc:=cVs_ok (w:=w) (ok:=ok) (ρ:=fun _ => none) (st:=⟨e0,h0⟩) hz2
  refine ⟨z,hz1,by simpa using hzl,ValsRep.of (by simpa using hzl.symm) fun j t' hj => ?_⟩
  obtain ⟨v,k1,k2,k3⟩:=hzc.get j (.v t') (by
    have : ∀ (zs : List TV) (j : Nat) (t' : TV),zs[j]?=some t'→(liftV zs)[j]?=some (.v t'):=by
      intro zs
      induction zs with
      | nil => intro j t' h; simp at h
      | cons q qs ih => intro j t' h; cases j with
        | zero => simpa [liftV] using h
        | succ j => simpa [liftV] using ih j t' (by simpa using h)
    exact this zs j t' hj)
  exact ⟨v,k1,k2,by simpa only [LRep] using k3⟩
theorem zeros_are {zs : List TV} {vs : List Value} (h : ValsRep w ok true zs vs) (m : Nat) : RowsAre w ok zs.length (List.replicate m zs) (List.replicate m vs).flatten:=by
  have hone:=RowsAre.one h
  induction m with
  | zero => exact RowsAre.nil
  | succ m ih => simpa [List.replicate_succ] using hone.append ih
theorem flat_len (vs : List Value) (m : Nat) : (List.replicate m vs).flatten.length=m * vs.length:=by
  induction m with
  | zero => simp
  | succ m ih => rw [List.replicate_succ,List.flatten_cons,List.length_append,ih,Nat.add_mul,Nat.one_mul,Nat.add_comm]
theorem flat_get (vs : List Value) : ∀ (m j : Nat),j < m * vs.length→(List.replicate m vs).flatten[j]?=vs[j % vs.length]?
  | 0,j,hj => by simp at hj
  | m + 1, j, hj => by
    rw [Nat.add_mul,Nat.one_mul] at hj
    rw [List.replicate_succ,List.flatten_cons]
    by_cases hlt : j < vs.length
    · rw [List.getElem?_append_left hlt,Nat.mod_eq_of_lt hlt]
    · rw [List.getElem?_append_right (by omega),flat_get vs m (j - vs.length) (by omega),Nat.mod_eq_sub_mod (show j ≥ vs.length by omega)]
theorem zeroCells_get {zero : Array Value} {n j : Nat} (h : j < n * zero.size) (hp : 0 < zero.size) : (Builtin.zeroCells zero n)[j]?=zero[j % zero.size]?:=by
  have hlt : j % zero.size < zero.size:=Nat.mod_lt _ hp
  simp only [Builtin.zeroCells,Array.getElem?_map]
  rw [Array.getElem?_eq_getElem (by simpa using h)]
  simp [hlt]

theorem run_append_zeros (t u ty e : TypeId) (i : TypeInfo) (z : Value) (k : IntKind) (ht : P.underlying t=some (.slice e)) (hu : P.underlying u=some (.int k)) (hi : P.info? e=some i) (hz : i.zero=some z)
    (b : Option Addr) (n : Int) (h0 : 0 < n) (hby : n * i.bytes≤140737488355328) (hb : 0 < i.bytes) (hs : 0 < i.size) :
    (Builtin.append_ #[t,u] ty #[.slice b 0 0,.int .i64 n]).run P w =
      .ok (.slice (some ⟨w.heap.size,0,none⟩) n.toNat (grownCap w n.toNat 0 e))
        (w.drew.alloc (.cells (Builtin.zeroCells z.cells n.toNat++Builtin.zeroCells z.cells (grownCap w n.toNat 0 e - n.toNat)) e)):=by
  have hnb : n≤140737488355328:=by
    have : n * 1≤n * (i.bytes : Int):=Int.mul_le_mul_of_nonneg_left (by omega) (by omega)
    omega
  have wn : IntKind.i64.wrap n=n:=by rw [IntKind.wrap_i64]; omega
  have q1 : ¬ n < 0:=by omega
  have q2 : ¬ (281474976710656 < n * (i.bytes : Int)):=by omega
  have q4' : ¬ ((9223372036854775807 : Int) < max n 0):=by omega
  have hx : n.toNat * i.bytes≤140737488355328:=by
    have e : ((n.toNat * i.bytes : Nat) : Int)=n * (i.bytes : Int):=by rw [Int.natCast_mul,Int.toNat_of_nonneg (by omega)]
    omega
  have q5 : ¬ (281474976710656 < Builtin.nextslicecap n.toNat 0 * i.bytes):=by
    have:=growslice_fits (by omega : 0 < n.toNat) hx
    omega
  have q6 : ¬ (n≤0):=by omega
  have q7' : ¬ (n.toNat * i.size=0):=by rw [Nat.mul_eq_zero]; omega
  have hf : (Builtin.firstCells i.size 0 (.slice b 0 0)).run P w.drew=.ok #[] w.drew:=by
    cases b<;>simp [Builtin.firstCells,loadCells,loadCellsFrom]
  simp [Builtin.append_,run_underlying ht,run_underlying hu,sizeOf,typeInfo,zeroValue,hi,hz,asInt,asIntOf,wn,q1,q2,q4',q5,q6,q7',Question.forced,hf,newRow,grownCap]

theorem run_append_zero0 (t u ty e : TypeId) (i : TypeInfo) (k : IntKind) (ht : P.underlying t=some (.slice e)) (hu : P.underlying u=some (.int k)) (hi : P.info? e=some i)
    (b : Option Addr) : (Builtin.append_ #[t,u] ty #[.slice b 0 0,.int .i64 0]).run P w=.ok (.slice b 0 0) w:=by
  have wn : IntKind.i64.wrap 0=0:=rfl
  cases b<;>simp [Builtin.append_,run_underlying ht,run_underlying hu,sizeOf,typeInfo,hi,asInt,asIntOf,wn,storeCells]

theorem op_appz (g : Gam N w0 ok0 st ok ρ a w) {d : Nat} (hd : o.dst=some d) (hN : N.may d) {t u e t1 t2 : TypeId} {x y : Operand} {x' y' : X} {lo : Nat} {i : TypeInfo} {zs : List TV}
    (ho : o.op=.call { callee:=.builtin .append,args:=#[x,y],argTypes:=#[t,u] }) (hx : cX P t1 x=some x') (hy : cX P t2 y=some y') (ht : P.underlying t=some (.slice e)) {k : IntKind} (hu : P.underlying u=some (.int k))
    (hi : P.info? e=some i) (hz : zeroT P e=some zs) (hzl : zs.length=i.size) (hb : 0 < i.bytes) (hs : 0 < i.size)
    (he : appzK lo st d e zs i.bytes (x'.rd st.env) (y'.rd st.env)=some st') (hn : Into N w0 ok0 st' next) : o.wpIn (FR rd) 0 P a w next Q:=by
  have h1:=rd_ok g hx
  have h2:=rd_ok g hy
  generalize x'.rd st.env=l1 at he h1
  generalize y'.rd st.env=l2 at he h2
  unfold appzK at he
  split at he
  · rename_i fe sz n
    split at he
    · rename_i hc
      obtain ⟨hsz,h0,hby⟩:=hc
      have e2:=lv_int h2
      simp only [LRep,TRep] at h1
      obtain ⟨ad,len,cap,e1,r2,r3,r4,r5,_⟩:=h1
      have r5:=r5 fe rfl
      simp only [List.length_nil] at r2
      subst r2
      subst r5
      obtain ⟨z,hz1,hz2,hz3⟩:=zeros_vals (w:=w) (ok:=ok) hi hz
      rcases Int.lt_or_eq_of_le h0 with hp | rfl
      · have hrun := run_append_zeros (P := P) (w := w) t u o.type e i z k ht hu hi hz1 ad n hp hby hb hs
        have hge:=grownCap_ge w n.toNat 0 e
        have hnb : n≤140737488355328:=by
          have : n * 1≤n * (i.bytes : Int):=Int.mul_le_mul_of_nonneg_left (by omega) (by omega)
          omega
        have hl : (List.replicate n.toNat z.cells.toList).flatten.length=n.toNat * i.size:=by rw [flat_len,Array.length_toList,← hz2,hzl]
        refine ok_arr g hd hN he (cap:=grownCap w n.toNat 0 e) (w1:=w.drew) (cur:=Builtin.zeroCells z.cells n.toNat++Builtin.zeroCells z.cells (grownCap w n.toNat 0 e - n.toNat)) (vs:=(List.replicate n.toNat z.cells.toList).flatten)
          ?_ (.inr rfl) (zeros_are hz3 n.toNat) ?_ ?_ (grownCap_le_maxLen w _ _ _ (by simp only [maxLen]; omega)) (by simp) (by simpa using hge) hn
        · simp [execOp,ho,resolve,invoke,builtin,e1,e2,hrun]
        · intro j v hj
          have hjl:=(List.getElem?_eq_some_iff.1 hj).1
          rw [hl] at hjl
          have hj2 : j < n.toNat * z.cells.size:=by rw [← hz2,hzl]; exact hjl
          rw [Array.getElem?_append_left (by rw [size_zeroCells]; exact hj2),zeroCells_get hj2 (by omega)]
          rw [flat_get _ _ _ (by simpa using hj2)] at hj
          simpa using hj
        · simp only [Array.size_append, size_zeroCells, ← hz2]
          rw [← Nat.add_mul]
          congr 1
          omega
      · have hrun := run_append_zero0 (P := P) (w := w) t u o.type e i k ht hu hi ad
        exact ok_empty g hd hN (by simpa using he) (ad:=ad) (by simp [execOp,ho,resolve,invoke,builtin,e1,e2,hrun]) hn
    · cases he
  · cases he

/-! ### maps: keys -/
theorem check_fields {k : TypeId→Option (List Lk)} {em : Bool} {d : Nat} (hk : ∀ t ks,k t=some ks→(∃ u,P.underlying t=some u)∧∀ (xs : List Value) (w : World),xs.length=ks.length →
      (Instr.checkKey em d t (packV (isAggB P t) xs)).run P w=.ok () w) (w : World) (xs : Array Value) :
    ∀ {fs : List Field} {off : Nat} {ks : List Lk},flatFs P k fs off=some ks→xs.size=off+ks.length →
      (forIn fs PUnit.unit (fun f _ => do if f.name≠"_" then (do Instr.checkKey em d f.type (← part f.type xs f.offset); pure (.yield PUnit.unit)) else pure (.yield PUnit.unit)) : Sem PUnit).run P w=.ok () w
  | [],off,ks,h,hl => by simp
  | f :: fs, off, ks, h, hl => by
    simp only [flatFs] at h
    split at h
    · rename_i k1 k2 h1 h2
      split at h
      · rename_i hc
        obtain ⟨hname,hoff,hsz,hag,hpos⟩:=hc
        obtain rfl:=Option.some.inj h
        obtain ⟨⟨u,hu⟩,hrun⟩:=hk _ _ h1
        rw [hsz] at h2
        simp only [List.length_append] at hl
        have px:=run_part (P:=P) w hu hsz xs f.offset (by omega) hag
        have hlen : ((xs.toList.drop f.offset).take k1.length).length=k1.length:=by simp; omega
        have hr:=hrun _ w hlen
        have ih:=check_fields hk w xs h2 (by simp; omega)
        simp only [List.forIn_cons,hname,ne_eq,not_false_eq_true,if_true,Sem.run_bind,px,Result.andThen_ok,hr,Sem.run_pure]
        exact ih
      · cases h
    · cases h
theorem run_checkKey_flat (em : Bool) : ∀ (n : Nat) {t : TypeId} {ks : List Lk},flatEq P n t=some ks→∀ d,n≤d→(∃ u,P.underlying t=some u)∧∀ (xs : List Value) (w : World),xs.length=ks.length →
    (Instr.checkKey em d t (packV (isAggB P t) xs)).run P w=.ok () w
  | 0,t,ks,h,d,_ => by cases h
  | n + 1, t, ks, h, d, hd => by
    obtain ⟨d,rfl⟩ : ∃ e,d=e+1:=⟨d - 1,by omega⟩
    simp only [flatEq] at h
    split at h
    · rename_i hu
      exact ⟨⟨_,hu⟩,fun xs w hl => by simp [Instr.checkKey,run_underlying hu]⟩
    · rename_i hu
      exact ⟨⟨_,hu⟩,fun xs w hl => by simp [Instr.checkKey,run_underlying hu]⟩
    · rename_i hu
      exact ⟨⟨_,hu⟩,fun xs w hl => by simp [Instr.checkKey,run_underlying hu]⟩
    · rename_i fs hu
      split at h
      · cases h
      · refine ⟨⟨_, hu⟩, fun xs w hl => ?_⟩
        have ha : isAggB P t=true:=by simp [isAggB,hu]
        have:=check_fields (em:=em) (fun t ks h => run_checkKey_flat em n h d (by omega)) w xs.toArray h (by simpa using hl)
        simp only [packV,ha,if_true,Instr.checkKey,Sem.run_bind,run_underlying hu,Result.andThen_ok]
        rw [← Array.forIn_toList]
        rw [this]
        simp
    · cases h

def findV (ks : List Lk) (kx : List Value) : List MapEntry→Nat→Option (Option (Nat × MapEntry))
  | [],_ => some none
  | e :: es, i => match eqVals ks kx e.key.cells.toList with
    | some true => some (some (i,e))
    | some false => findV ks kx es (i+1)
    | none => none
def Shaped (ag : Bool) (v : Value) : Prop:=v=packV ag v.cells.toList
theorem run_findAsking {kt : TypeId} {ks : List Lk} (hk : flatEq P 10 kt=some ks) {kx : List Value} (w : World) : ∀ {es : List MapEntry} {i : Nat} {r : Option (Nat × MapEntry)},findV ks kx es i=some r→(∀ e∈es,Shaped (isAggB P kt) e.key) →
    (Instr.findAsking kt (packV (isAggB P kt) kx) es i).run P w=.ok (r.map fun p => (p.1,p.2.val)) w
  | [], i, r, h, hs => by
    obtain rfl:=Option.some.inj h
    simp [Instr.findAsking]
  | e :: es, i, r, h, hs => by
    have hse:=hs e (by simp)
    have heq : ∀ b,eqVals ks kx e.key.cells.toList=some b→(Op.equal kt (packV (isAggB P kt) kx) e.key).run P w=.ok b w:=by
      intro b hb
      have:=(flatEq_sound 10 hk 10000 (by omega)).2 _ _ b w hb
      have e' : packV (isAggB P kt) e.key.cells.toList=e.key:=hse.symm
      rw [e'] at this
      simpa [Op.equal,Op.maxDepth] using this
    simp only [findV] at h
    split at h
    · rename_i hb
      obtain rfl:=Option.some.inj h
      simp [Instr.findAsking,heq _ hb]
    · rename_i hb
      have ih:=run_findAsking hk w h fun x hx => hs x (by simp [hx])
      simp [Instr.findAsking,heq _ hb,ih]
    · cases h
theorem findNow_at {kt : TypeId} {ks : List Lk} (hk : flatEq P 10 kt=some ks) {u : TypeDesc} (hu : P.underlying kt=some u) {kx : List Value} : ∀ {es : List MapEntry} {i : Nat} {r : Option (Nat × MapEntry)},findV ks kx es i=some r→(∀ e∈es,Shaped (isAggB P kt) e.key) →
    ∀ {r'},Instr.findNow u (packV (isAggB P kt) kx) es i=some r'→r'=r.map fun p => (p.1,p.2.val)
  | [], i, r, h, hs, r', h' => by
    obtain rfl:=Option.some.inj h
    obtain rfl:=Option.some.inj h'
    rfl
  | e :: es, i, r, h, hs, r', h' => by
    have hse:=hs e (by simp)
    have key : ∀ b c,Instr.sameNow u (packV (isAggB P kt) kx) e.key=some b→eqVals ks kx e.key.cells.toList=some c→b=c:=by
      intro b c hb hc
      obtain ⟨l1,l2⟩:=eqVals_length hc
      have leaf : ∀ k0 : Lk,ks=[k0]→isAggB P kt=false→∃ x,packV (isAggB P kt) kx=x∧eqVal k0 x e.key=some c:=by
        intro k0 e0 ha
        subst e0
        have e1 : packV (isAggB P kt) e.key.cells.toList=e.key:=hse.symm
        generalize e.key.cells.toList=ys at *
        match kx,ys,l1,l2 with
        | [x], [y], _, _ =>
          simp only [packV,ha,Bool.false_eq_true,if_false,List.headD_cons] at e1 ⊢
          subst e1
          simp only [eqVals] at hc
          obtain ⟨p,q,h1,h2,rfl⟩:=andO_some hc
          obtain rfl:=Option.some.inj h2
          exact ⟨x,rfl,by simpa using h1⟩
      simp only [flatEq,hu] at hk
      cases u with
      | bool =>
        obtain ⟨x,e1,e2⟩:=leaf .b (Option.some.inj hk).symm (by simp [isAggB,hu])
        rw [e1] at hb
        unfold eqVal at e2
        split at e2<;>simp_all [Instr.sameNow]
      | int k0 =>
        obtain ⟨x,e1,e2⟩:=leaf .i (Option.some.inj hk).symm (by simp [isAggB,hu])
        rw [e1] at hb
        unfold eqVal at e2
        split at e2<;>simp_all [Instr.sameNow]
      | string =>
        obtain ⟨x,e1,e2⟩:=leaf .z (Option.some.inj hk).symm (by simp [isAggB,hu])
        rw [e1] at hb
        unfold eqVal at e2
        split at e2
        · cases ‹Lk.z=Lk.i›
        · cases ‹Lk.z=Lk.b›
        · rename_i a' b' _ hk'
          rw [hk'] at hb
          have hb : some (a' == b')=some b:=hb
          have e2 : some (a'.toList == b'.toList)=some c:=e2
          rw [← Option.some.inj hb,← Option.some.inj e2,beq_toListBytes]
        · cases e2
      | struct fs => simp [Instr.sameNow] at hb
      | _ => simp at hk
    simp only [Instr.findNow] at h'
    simp only [findV] at h
    split at h'
    · rename_i hb
      split at h
      · obtain rfl := Option.some.inj h
        obtain rfl:=Option.some.inj h'
        rfl
      · rename_i hc
        cases key _ _ hb hc
      · cases h
    · rename_i hb
      split at h
      · rename_i hc
        cases key _ _ hb hc
      · exact findNow_at hk hu h (fun x hx => hs x (by simp [hx])) h'
      · cases h
    · cases h'
theorem run_findKey_flat {kt : TypeId} {ks : List Lk} (hk : flatEq P 10 kt=some ks) {kx : List Value} (w : World) {es : List MapEntry} {r : Option (Nat × MapEntry)} (h : findV ks kx es 0=some r) (hs : ∀ e∈es,Shaped (isAggB P kt) e.key) :
    (Instr.findKey kt (packV (isAggB P kt) kx) es).run P w=.ok (r.map fun p => (p.1,p.2.val)) w:=by
  obtain ⟨u,hu⟩:=(run_checkKey_flat (P:=P) false 10 hk 10 (Nat.le_refl _)).1
  have hA:=run_findAsking hk w h hs
  simp only [Instr.findKey,Sem.run_bind,run_underlying hu,Result.andThen_ok]
  cases hn : Instr.findNow u (packV (isAggB P kt) kx) es 0 with
  | none => simpa using hA
  | some r' => simp [findNow_at hk hu h hs hn]

/-! ### maps: entries -/
theorem liftV_reps {one : Bool} {h : Hp} : ∀ {ts : List TV} {vs : List Value},ValsRep w ok one ts vs→LReps w ok ρ h one (liftV ts) vs
  | [],vs,hv => by simp only [ValsRep] at hv; simp only [liftV,LReps]; exact hv
  | t :: ts, vs, hv => by
    simp only [ValsRep] at hv
    obtain ⟨v,r,h1,h2,h3,h4⟩:=hv
    simp only [liftV,LReps]
    exact ⟨v,r,h1,h2,by simp only [LRep]; exact h3,liftV_reps h4⟩
theorem one_cells {x : Value} (h : x.oneCell'=true) : x.cells=#[x]:=by cases x<;>first | rfl | (simp [Value.oneCell'] at h)
theorem pack_cells {h : Hp} {ag : Bool} {cells : List TV} {x : Value} (hp : PackRep w ok ag cells x) : LReps w ok ρ h true (liftV cells) x.cells.toList∧Shaped ag x:=by
  unfold PackRep at hp
  split at hp
  · rename_i e
    obtain ⟨vs,rfl,h2⟩:=hp
    subst e
    exact ⟨liftV_reps h2,by simp [Shaped,packV,Value.cells]⟩
  · rename_i e
    obtain ⟨t,rfl,h2,h3⟩:=hp
    have e' : ag=false:=by simpa using e
    subst e'
    rw [one_cells h2]
    refine ⟨?_,by simp [Shaped,packV,one_cells h2]⟩
    simp only [liftV,LReps]
    exact ⟨x,[],rfl,fun _ => h2,by simp only [LRep]; exact h3,rfl⟩
theorem pack_lrep {h : Hp} {ag : Bool} {cells : List TV} {x : Value} (hp : PackRep w ok ag cells x) {l : LV} (hl : packL ag (liftV cells)=some l) : LRep w ok ρ h l x:=by
  unfold PackRep at hp
  split at hp
  · rename_i e
    obtain ⟨vs,rfl,h2⟩:=hp
    subst e
    obtain rfl:=Option.some.inj hl
    simp only [LRep]
    exact ⟨vs,rfl,liftV_reps h2⟩
  · rename_i e
    obtain ⟨t,rfl,h2,h3⟩:=hp
    have e' : ag=false:=by simpa using e
    subst e'
    obtain rfl:=Option.some.inj hl
    simp only [LRep]
    exact h3
theorem ents_shaped {kag vag : Bool} : ∀ {ents : List (List TV × List TV)} {es : List MapEntry},EntsRep w ok kag vag ents es→∀ e∈es,Shaped kag e.key
  | [], es, h, e, he => by
    have h : es=[]:=h
    subst h
    simp at he
  | x :: r, es, h, e, he => by
    obtain ⟨e',r',rfl,h2,h3,h4⟩:=h
    rcases List.mem_cons.1 he with rfl | he
    · exact (pack_cells (ρ:=fun _ => none) (h:=h0) h2).2
    · exact ents_shaped h4 e he
theorem findM_V {h : Hp} {kag vag : Bool} {ks : List Lk} {key : List LV} {kx : List Value} (hk : LReps w ok ρ h true key kx) (hh : st.hp=h) : ∀ {ents : List (List TV × List TV)} {es : List MapEntry} {r : Option (List TV)} (i : Nat),EntsRep w ok kag vag ents es→findM ks key ents=some r →
    (r=none∧findV ks kx es i=some none)∨∃ v j e,r=some v∧findV ks kx es i=some (some (i+j,e))∧es[j]?=some e∧PackRep w ok vag v e.val
  | [], es, r, i, hr, hf => by
    have hr : es=[]:=hr
    subst hr
    obtain rfl:=Option.some.inj hf
    exact .inl ⟨rfl,rfl⟩
  | (a', v) :: ents, es, r, i, hr, hf => by
    obtain ⟨e,r',rfl,h2,h3,h4⟩:=hr
    subst hh
    simp only [findM] at hf
    split at hf
    · rename_i hb
      have:=eqCells_vals hb hk (pack_cells h2).1
      obtain rfl:=Option.some.inj hf
      exact .inr ⟨v,0,e,rfl,by simp [findV,this],rfl,h3⟩
    · rename_i hb
      have:=eqCells_vals hb hk (pack_cells h2).1
      rcases findM_V hk rfl (i+1) h4 hf with ⟨k1,k2⟩ | ⟨v',j,e',k1,k2,k3,k4⟩
      · exact .inl ⟨k1,by simp only [findV,this]; exact k2⟩
      · exact .inr ⟨v',j+1,e',k1,by simp only [findV,this]; rw [k2]; congr 3; omega,by simpa using k3,k4⟩
    · cases hf
theorem consM_some {x : List TV × List TV} {y : Option (List (List TV × List TV))} {r : List (List TV × List TV)} (h : consM x y=some r) : ∃ r',y=some r'∧r=x :: r':=by
  cases y with
  | none => cases h
  | some r' => exact ⟨r',rfl,(Option.some.inj h).symm⟩
theorem updM_V {h : Hp} {kag vag : Bool} {ks : List Lk} {key : List LV} {kx : List Value} (hk : LReps w ok ρ h true key kx) (hh : st.hp=h) {kc vc : List TV} {kv vv : Value} (hkc : PackRep w ok kag kc kv) (hvc : PackRep w ok vag vc vv) :
    ∀ {ents ents' : List (List TV × List TV)} {es : List MapEntry} (i : Nat),EntsRep w ok kag vag ents es→updM ks key kc vc ents=some ents' →
    (findV ks kx es i=some none∧∀ n,EntsRep w ok kag vag ents' (es++[⟨kv,vv,n⟩])) ∨
    ∃ j e,findV ks kx es i=some (some (i+j,e))∧es[j]?=some e∧eqVals ks kx e.key.cells.toList=some true∧EntsRep w ok kag vag ents' (es.modify j fun e => { e with key:=kv,val:=vv })
  | [], ents', es, i, hr, hf => by
    have hr : es=[]:=hr
    subst hr
    obtain rfl:=Option.some.inj hf
    exact .inl ⟨rfl,fun n => ⟨_,_,rfl,hkc,hvc,rfl⟩⟩
  | (a', v) :: ents, ents', es, i, hr, hf => by
    obtain ⟨e,r',rfl,h2,h3,h4⟩:=hr
    subst hh
    simp only [updM] at hf
    split at hf
    · rename_i hb
      have:=eqCells_vals hb hk (pack_cells h2).1
      obtain rfl:=Option.some.inj hf
      exact .inr ⟨0,e,by simp [findV,this],rfl,this,by simp only [List.modify_zero_cons]; exact ⟨_,_,rfl,hkc,hvc,h4⟩⟩
    · rename_i hb
      have:=eqCells_vals hb hk (pack_cells h2).1
      obtain ⟨r1,e1,rfl⟩:=consM_some hf
      rcases updM_V hk rfl hkc hvc (i+1) h4 e1 with ⟨k1,k2⟩ | ⟨j,e',k1,k2,k3,k4⟩
      · exact .inl ⟨by simp only [findV,this]; exact k1,fun n => ⟨e,_,rfl,h2,h3,k2 n⟩⟩
      · refine .inr ⟨j + 1, e', by simp only [findV, this]; rw [k1]; congr 3; omega, by simpa using k2, k3, ?_⟩
        simp only [List.modify_succ_cons]
        exact ⟨e,_,rfl,h2,h3,k4⟩
    · cases hf
theorem delM_V {h : Hp} {kag vag : Bool} {ks : List Lk} {key : List LV} {kx : List Value} (hk : LReps w ok ρ h true key kx) (hh : st.hp=h) :
    ∀ {ents ents' : List (List TV × List TV)} {es : List MapEntry} (i : Nat),EntsRep w ok kag vag ents es→delM ks key ents=some ents' →
    (findV ks kx es i=some none∧EntsRep w ok kag vag ents' es)∨∃ j e,findV ks kx es i=some (some (i+j,e))∧EntsRep w ok kag vag ents' (es.eraseIdx j)
  | [], ents', es, i, hr, hf => by
    have hr : es=[]:=hr
    subst hr
    obtain rfl:=Option.some.inj hf
    exact .inl ⟨rfl,rfl⟩
  | (a', v) :: ents, ents', es, i, hr, hf => by
    obtain ⟨e,r',rfl,h2,h3,h4⟩:=hr
    subst hh
    simp only [delM] at hf
    split at hf
    · rename_i hb
      have:=eqCells_vals hb hk (pack_cells h2).1
      obtain rfl:=Option.some.inj hf
      exact .inr ⟨0,e,by simp [findV,this],by simpa using h4⟩
    · rename_i hb
      have:=eqCells_vals hb hk (pack_cells h2).1
      obtain ⟨r1,e1,rfl⟩:=consM_some hf
      rcases delM_V hk rfl (i+1) h4 e1 with ⟨k1,k2⟩ | ⟨j,e',k1,k2⟩
      · exact .inl ⟨by simp only [findV,this]; exact k1,⟨e,_,rfl,h2,h3,k2⟩⟩
      · refine .inr ⟨j + 1, e', by simp only [findV, this]; rw [k1]; congr 3; omega, ?_⟩
        simp only [List.eraseIdx_cons_succ]
        exact ⟨e,_,rfl,h2,h3,k2⟩
    · cases hf

theorem eqVal_bits {k : Lk} {u v : Value} (h : eqVal k u v=some true) (n : Nat) : Instr.sameBits n v u=true:=by
  unfold eqVal at h
  split at h
  · split at h
    · rename_i e
      subst e
      have:=Option.some.inj h
      simp only [beq_iff_eq] at this
      subst this
      unfold Instr.sameBits; simp
    · cases h
  · have := Option.some.inj h
    simp only [beq_iff_eq] at this
    subst this
    unfold Instr.sameBits; simp
  · have := Option.some.inj h
    rw [← beq_toListBytes,Go.MapKept.bytes_beq] at this
    subst this
    unfold Instr.sameBits
    rw [Go.MapKept.bytes_beq]
  · cases h
theorem eqVals_bits (n : Nat) : ∀ {ks : List Lk} {us vs : List Value},eqVals ks us vs=some true→((vs.zip us).all fun (x,y) => Instr.sameBits n x y)=true
  | [],[],[],h => rfl
  | k :: ks, u :: us, v :: vs, h => by
    simp only [eqVals] at h
    obtain ⟨p,q,h1,h2,h3⟩:=andO_some h
    have h3 : p=true∧q=true:=by simpa using h3.symm
    obtain ⟨rfl,rfl⟩:=h3
    simp only [List.zip_cons_cons,List.all_cons,eqVal_bits h1 n,Bool.true_and]
    exact eqVals_bits n h2
  | [],_ :: _,_,h => by simp [eqVals] at h
  | [],[],_ :: _,h => by simp [eqVals] at h
  | _ :: _,[],_,h => by simp [eqVals] at h
  | _ :: _,_ :: _,[],h => by simp [eqVals] at h
theorem run_stays {ks : List Lk} {kag : Bool} {kx : List Value} {old : Value} (hs : Shaped kag old) (hl : kag=false→ks.length=1) (h : eqVals ks kx old.cells.toList=some true) (w : World) : (Instr.keyThatStays old (packV kag kx)).run P w=.ok (packV kag kx) w:=by
  have hb : Instr.sameBits 10000 old (packV kag kx)=true:=by
    have hlen:=eqVals_length h
    cases kag with
    | true =>
      rw [hs]
      simp only [packV,if_true]
      have:=eqVals_bits 9999 h
      unfold Instr.sameBits
      simp only [Bool.and_eq_true,beq_iff_eq]
      exact ⟨by simp [hlen.1,← hlen.2],by simpa using this⟩
    | false =>
      have h1:=hl rfl
      rw [hs]
      simp only [Bool.false_eq_true,packV,if_false]
      generalize old.cells.toList=ys at *
      match ks,kx,ys,h1,hlen,h with
      | [k], [x], [y], _, _, h =>
        simp only [eqVals] at h
        obtain ⟨p,q,k1,k2,k3⟩:=andO_some h
        obtain rfl:=Option.some.inj k2
        have : p=true:=by simpa using k3.symm
        subst this
        simpa using eqVal_bits k1 10000
  simp [Instr.keyThatStays,hb]

theorem oneOf_ok {ag : Bool} {l : LV} {cs : List LV} {h : Hp} (he : oneOf ag l=some cs) {x : Value} (hl : LRep w ok ρ h l x) : ∃ xs : List Value,x=packV ag xs∧LReps w ok ρ h true cs xs:=by
  unfold oneOf at he
  have single : ∀ {l : LV},LRep w ok ρ h l x→x.oneCell'=true→∃ xs : List Value,x=packV false xs∧LReps w ok ρ h true [l] xs:=fun {l} hl h1 =>
    ⟨[x],by simp [packV],by simp only [LReps]; exact ⟨x,[],rfl,fun _ => h1,hl,rfl⟩⟩
  split at he
  · obtain rfl := Option.some.inj he
    simp only [LRep] at hl
    obtain ⟨vs,rfl,h2⟩:=hl
    exact ⟨vs.toList,by simp [packV],h2⟩
  · obtain rfl := Option.some.inj he
    exact single hl (by simp only [LRep,TRep] at hl; subst hl; rfl)
  · obtain rfl := Option.some.inj he
    exact single hl (by simp only [LRep,TRep] at hl; subst hl; rfl)
  · obtain rfl := Option.some.inj he
    exact single hl (by simp only [LRep,TRep] at hl; subst hl; rfl)
  · obtain rfl := Option.some.inj he
    exact single hl (by simp only [LRep,TRep] at hl; obtain ⟨a,len,cap,rfl,_⟩:=hl; rfl)
  · obtain rfl := Option.some.inj he
    exact single hl (by have hl':=hl; simp only [LRep] at hl'; obtain ⟨b,cap,rfl,_⟩:=hl'.shape; rfl)
  · cases he
theorem oneOf_len {l : LV} {cs : List LV} (he : oneOf false l=some cs) : cs.length=1:=by
  unfold oneOf at he
  split at he
  · cases ‹false=true›
  all_goals first | (obtain rfl:=Option.some.inj he; rfl) | (cases he; done)
theorem scalTV_ok {l : LV} {t : TV} (h : scalTV l=some t) {h' : Hp} {x : Value} {ok' : Nat→Prop} {w1 : World} (hl : LRep w ok ρ h' l x) : TRep w1 ok' t x:=by
  unfold scalTV at h
  split at h
  all_goals first | (cases h; done) | (obtain rfl:=Option.some.inj h; simp only [LRep,TRep] at hl ⊢; exact hl)
theorem scalTVs_ok {one : Bool} {h' : Hp} {ok' : Nat→Prop} {w1 : World} : ∀ {ls : List LV} {ts : List TV},scalTVs ls=some ts→∀ {xs : List Value},LReps w ok ρ h' one ls xs→ValsRep w1 ok' one ts xs
  | [], ts, h, xs, hl => by
    obtain rfl:=Option.some.inj h
    simp only [LReps] at hl
    simp only [ValsRep]
    exact hl
  | l :: ls, ts, h, xs, hl => by
    simp only [scalTVs] at h
    unfold consO at h
    split at h
    · rename_i h1 h2
      obtain rfl:=Option.some.inj h
      simp only [LReps] at hl
      obtain ⟨v,r,rfl,k1,k2,k3⟩:=hl
      simp only [ValsRep]
      exact ⟨v,r,rfl,k1,scalTV_ok h1 k2,scalTVs_ok h2 k3⟩
    · cases h
theorem vals_pack {ag : Bool} {ts : List TV} {xs : List Value} (h : ValsRep w ok true ts xs) (hl : ag=false→ts.length=1) : PackRep w ok ag ts (packV ag xs):=by
  unfold PackRep
  cases ag with
  | true => simp only [packV,if_true]; exact ⟨_,rfl,by simpa using h⟩
  | false =>
    have h1:=hl rfl
    match ts,h1,h with
    | [t], _, h =>
      simp only [ValsRep] at h
      obtain ⟨v,r,rfl,h2,h3,rfl⟩:=h
      simp only [packV,Bool.false_eq_true,if_false,List.headD_cons]
      exact ⟨t,rfl,h2 trivial,h3⟩

/-! ### maps: the operations -/
def setMapW (w : World) (b : Nat) (es : Array MapEntry) (clock : Nat) : World:={ w with heap:=w.heap.setIfInBounds b (.map es clock) }
theorem op_mkmap (g : Gam N w0 ok0 st ok ρ a w) {d : Nat} (hd : o.dst=some d) (hN : N.may d) {t : TypeId} {lo : Nat} {kag vag : Bool} (ho : o.op=.makeMap t none)
    (he : mkO d (lo+d) (.map false kag vag []) (.m (lo+d)) st=some st') (hn : Into N w0 ok0 st' next) : o.wpIn (FR rd) 0 P a w next Q:=by
  obtain ⟨hid,rfl⟩:=mkO_some he
  have g1:=g.world (below_alloc w (.map #[] 0))
  have g2:=g1.adopt hid (o:=.map false kag vag []) (x:=some (w.heap.size,0)) (fun b K hx => by
      have hb : w.heap.size=b:=congrArg Prod.fst (Option.some.inj hx)
      subst hb
      exact ⟨⟨g.below.size,g.res_none⟩,by simp,fun h => Nat.lt_irrefl _ (g.free _ h).1,fun i p K' hi hpl hr => Nat.lt_irrefl _ (g.fresh i p _ K' hi hpl hr).2⟩)
    ⟨w.heap.size,0,#[],0,upd_same _ _ _,heap_alloc_new w _,rfl,by simp,by simp⟩
  refine wp_val (v:=.map (some w.heap.size)) (w':=w.alloc (.map #[] 0)) (by simp [execOp,ho,Instr.makeMap]) ?_
  rw [hd]
  refine hn _ _ _ _ (g2.put hN ?_)
  simp only [LRep,MRep,upd_same]
  exact ⟨_,_,rfl,rfl⟩

theorem map_form (g : Gam N w0 ok0 st ok ρ a w) {id : Nat} {f kag vag : Bool} {ents : List (List TV × List TV)} (hid : st.hp id=some (.map f kag vag ents)) {x : Value} (hx : LRep w ok ρ st.hp (.m id) x) :
    ∃ b K es clock,x=.map (some b)∧ρ id=some (b,K)∧w.heap[b]?=some (.map es clock)∧EntsRep w ok kag vag ents es.toList∧(∀ e∈es.toList,e.born < clock)∧(es.toList.map (·.born)).Nodup:=by
  simp only [LRep,hid,MRep] at hx
  obtain ⟨b,K,h1,rfl⟩:=hx
  obtain ⟨b',K',es,clock,k1,k2,k3,k4,k5⟩:=g.obj id _ hid
  rw [h1] at k1
  obtain ⟨rfl,rfl⟩ : b=b'∧K=K':=by simpa using k1
  exact ⟨b,K,es,clock,rfl,h1,k2,k3,k4,k5⟩

theorem op_mlen (g : Gam N w0 ok0 st ok ρ a w) {d : Nat} (hd : o.dst=some d) (hN : N.may d) {t k e t1 : TypeId} {x : Operand} {x' : X} (ho : o.op=.call { callee:=.builtin .len,args:=#[x],argTypes:=#[t] }) (hx : cX P t1 x=some x')
    (ht : P.underlying t=some (.map k e)) (he : setV st d (mlenL st.hp (x'.rd st.env))=some st') (hn : Into N w0 ok0 st' next) : o.wpIn (FR rd) 0 P a w next Q:=by
  obtain ⟨r,hr,rfl⟩:=setV_some he
  have h1:=rd_ok g hx
  generalize x'.rd st.env=l at hr h1
  unfold mlenL at hr
  split at hr
  · rename_i id
    unfold mlenO at hr
    split at hr
    · rename_i f kag vag ents hid
      obtain rfl:=Option.some.inj hr
      obtain ⟨b,K,es,clock,e1,_,k2,k3,_⟩:=map_form g hid h1
      have hl:=k3.length
      refine ok_val g hd hN (v:=.int .i64 ents.length) ?_ (lrep_v trep_int) hn
      have hg:=Go.MapKept.run_getObj_map (P:=P) k2
      simp [execOp,ho,resolve,invoke,builtin,e1,Builtin.len_,run_underlying ht,hg,goInt,← hl]
    · cases hr
  · cases hr

theorem run_zero_pack {e : TypeId} {zs : List TV} (hz : zeroT P e=some zs) (hp : plainTy P e zs.length=true) (hzo : zeroOk P e=true) : ∃ z,(zeroValue e).run P w=.ok z w∧PackRep w ok (isAggB P e) zs z:=by
  obtain ⟨z,hz1,hz2⟩:=zeroT_some hz
  have hzl:=cVs_length hz2
  have hzc:=cVs_ok (w:=w) (ok:=ok) (ρ:=fun _ => none) (st:=⟨e0,h0⟩) hz2
  have hval : ValsRep w ok true zs z.cells.toList:=ValsRep.of (by simpa using hzl.symm) fun j t' hj => by
    obtain ⟨v,k1,k2,k3⟩:=hzc.get j (.v t') (by
      have : ∀ (zs : List TV) (j : Nat) (t' : TV),zs[j]?=some t'→(liftV zs)[j]?=some (.v t'):=by
        intro zs
        induction zs with
        | nil => intro j t' h; simp at h
        | cons q qs ih => intro j t' h; cases j with
          | zero => simpa [liftV] using h
          | succ j => simpa [liftV] using ih j t' (by simpa using h)
      exact this zs j t' hj)
    exact ⟨v,k1,k2,by simpa only [LRep] using k3⟩
  refine ⟨z,run_zeroValue w hz1,?_⟩
  have hlen : isAggB P e=false→zs.length=1:=by
    intro h
    simp only [plainTy,h,Bool.and_eq_true,Bool.false_or,beq_iff_eq] at hp
    exact hp.2
  have:=vals_pack (ag:=isAggB P e) hval hlen
  have e' : packV (isAggB P e) z.cells.toList=z:=by
    unfold zeroOk at hzo
    rw [hz1] at hzo
    cases ha : isAggB P e with
    | true =>
      rw [ha] at hzo
      cases z<;>simp_all [packV,Value.cells]
    | false =>
      rw [ha] at hzo
      cases z<;>simp_all [packV,Value.cells]
  rwa [e'] at this

theorem op_mget (g : Gam N w0 ok0 st ok ρ a w) {d : Nat} (hd : o.dst=some d) (hN : N.may d) {t k e t1 t2 : TypeId} {x y : Operand} {x' y' : X} {cok : Bool} {ks : List Lk} {zs : List TV} (ho : o.op=.lookup t x y cok) (hx : cX P t1 x=some x') (hy : cX P t2 y=some y')
    (ht : P.underlying t=some (.map k e)) (hk : flatEq P 10 k=some ks) (hz : zeroT P e=some zs) (hp : plainTy P e zs.length=true) (hzo : zeroOk P e=true)
    (he : setM st d (mgetL st.hp ks (isAggB P k) (isAggB P e) zs cok (oneOf (isAggB P k) (y'.rd st.env)) (x'.rd st.env))=some st') (hn : Into N w0 ok0 st' next) : o.wpIn (FR rd) 0 P a w next Q:=by
  obtain ⟨r,hr,rfl⟩:=setM_some he
  have h1:=rd_ok g hx
  have h2:=rd_ok g hy
  generalize x'.rd st.env=l1 at hr h1
  generalize y'.rd st.env=l2 at hr h2
  unfold mgetL at hr
  split at hr
  · rename_i key id hkey
    unfold mgetO at hr
    split at hr
    · rename_i f kag vag ents hid
      split at hr
      · rename_i hc
        obtain ⟨rfl,rfl,hlen⟩:=hc
        obtain ⟨b,K,es,clock,e1,_,k2,k3,_⟩:=map_form g hid h1
        obtain ⟨kx,e2,hkx⟩:=oneOf_ok hkey h2
        have hg:=Go.MapKept.run_getObj_map (P:=P) k2
        have hck:=(run_checkKey_flat (P:=P) es.isEmpty 10 hk 10000 (by omega)).2 kx w (by rw [hkx.length,hlen])
        cases hf : findM ks key ents with
        | none => rw [hf] at hr; cases hr
        | some fr =>
          rw [hf] at hr
          have fin : ∀ (v : Value) (bb : Bool),LRep w ok ρ st.hp r (if cok then .tuple #[v,.bool bb] else v)→(execOp a.eval o).run P w=.ok (.value (if cok then .tuple #[v,.bool bb] else v)) w→o.wpIn (FR rd) 0 P a w next Q :=
            fun v bb hl hrun => ok_val g hd hN hrun hl hn
          have shape : ∀ (v : Value) (bb : Bool) (cells : List TV),PackRep w ok (isAggB P e) cells v→mgetP bb cok (packL (isAggB P e) (liftV cells))=some r→LRep w ok ρ st.hp r (if cok then .tuple #[v,.bool bb] else v):=by
            intro v bb cells hpk hm
            cases hpl : packL (isAggB P e) (liftV cells) with
            | none => rw [hpl] at hm; cases cok<;>cases hm
            | some l =>
              rw [hpl] at hm
              have hl:=pack_lrep (ρ:=ρ) (h:=st.hp) hpk hpl
              cases cok with
              | false => obtain rfl:=Option.some.inj hm; exact hl
              | true =>
                obtain rfl:=Option.some.inj hm
                simp only [if_true,LRep]
                exact ⟨_,rfl,by simp only [LReps]; exact ⟨_,_,rfl,by simp,hl,_,_,rfl,by simp,by simp only [LRep,TRep],rfl⟩⟩
          rcases findM_V hkx rfl 0 k3 hf with ⟨rfl,hv⟩ | ⟨v,j,en,rfl,hv,_,hpk⟩
          · obtain ⟨z, hz1, hz2⟩ := run_zero_pack (w := w) (ok := ok) hz hp hzo
            refine fin z false (shape z false zs hz2 hr) ?_
            have hfk:=run_findKey_flat hk w hv (ents_shaped k3)
            simp only [Option.map_none] at hfk
            cases cok<;>simp [execOp,ho,e1,e2,Instr.lookup,run_underlying ht,hg,hck,hfk,hz1]
          · refine fin en.val true (shape en.val true v hpk hr) ?_
            have hfk:=run_findKey_flat hk w hv (ents_shaped k3)
            simp only [Option.map_some] at hfk
            cases cok<;>simp [execOp,ho,e1,e2,Instr.lookup,run_underlying ht,hg,hck,hfk]
      · cases hr
    · cases hr
  · cases hr

theorem setMap_some {h : Hp} {id : Nat} {kag vag : Bool} {x : Option (List (List TV × List TV))} (he : setMap st h id kag vag x=some st') : ∃ es,x=some es∧st'={ st with hp:=upd h id (some (.map false kag vag es)) }:=by
  cases x with
  | none => cases he
  | some es => exact ⟨es,rfl,(Option.some.inj he).symm⟩
theorem same_setMap (g : Gam N w0 ok0 st ok ρ a w) {id b K : Nat} {o' : Ob} (hid : st.hp id=some o') (hown : o'.own=true) (hr : ρ id=some (b,K)) (es : Array MapEntry) (clock : Nat) : Same w (setMapW w b es clock) ok ok:=fun c hc => by
  have hne : c≠b:=fun e => (g.free c hc).2 id _ K hid hown (e ▸ hr)
  exact ⟨by simp [setMapW,Ne.symm hne],hc⟩
theorem Gam.setMapG (g : Gam N w0 ok0 st ok ρ a w) {id b K : Nat} {kag vag : Bool} {ents ents' : List (List TV × List TV)} (hid : st.hp id=some (.map false kag vag ents)) (hr : ρ id=some (b,K)) {es es' : Array MapEntry} {clock clock' : Nat} (hb : w.heap[b]?=some (.map es clock))
    (hents : EntsRep w ok kag vag ents' es'.toList) (hbn : ∀ e∈es'.toList,e.born < clock') (hnd : (es'.toList.map (·.born)).Nodup) :
    Gam N w0 ok0 { st with hp:=upd st.hp id (some (.map false kag vag ents')) } ok ρ a (setMapW w b es' clock'):=by
  have hlt : b < w.heap.size:=(Array.getElem?_eq_some_iff.1 hb).1
  refine g.turn hid rfl rfl hr (.inr (.inr ⟨_,_,_,_,_,_,rfl,rfl⟩)) ⟨rfl,rfl,rfl,by simp [setMapW],fun k hk => by simp [setMapW,Nat.ne_of_gt hk]⟩ (fun k hk => by simp [setMapW,Ne.symm hk]) (by simp [setMapW]) ?_
  exact ⟨b,K,es',clock',hr,by simp [setMapW,hlt],hents.to (same_setMap g hid rfl hr es' clock'),hbn,hnd⟩

theorem op_mdel (g : Gam N w0 ok0 st ok ρ a w) (hd : o.dst=none) {t k e u t1 t2 : TypeId} {x y : Operand} {x' y' : X} {ks : List Lk} (ho : o.op=.call { callee:=.builtin .delete,args:=#[x,y],argTypes:=#[t,u] }) (hx : cX P t1 x=some x') (hy : cX P t2 y=some y')
    (ht : P.underlying t=some (.map k e)) (hk : flatEq P 10 k=some ks) (he : mdelL st ks (isAggB P k) (oneOf (isAggB P k) (y'.rd st.env)) (x'.rd st.env)=some st') (hn : Into N w0 ok0 st' next) : o.wpIn (FR rd) 0 P a w next Q:=by
  have h1:=rd_ok g hx
  have h2:=rd_ok g hy
  generalize x'.rd st.env=l1 at he h1
  generalize y'.rd st.env=l2 at he h2
  unfold mdelL at he
  split at he
  · rename_i key id hkey
    unfold mdelO at he
    split at he
    · rename_i kag vag ents hid
      split at he
      · rename_i hc
        obtain ⟨rfl,hlen⟩:=hc
        obtain ⟨ents',hd1,rfl⟩:=setMap_some he
        obtain ⟨b,K,es,clock,e1,hr,k2,k3,k4,k5⟩:=map_form g hid h1
        obtain ⟨kx,e2,hkx⟩:=oneOf_ok hkey h2
        have hg:=Go.MapKept.run_getObj_map (P:=P) k2
        have hck:=(run_checkKey_flat (P:=P) es.isEmpty 10 hk 10000 (by omega)).2 kx w (by rw [hkx.length,hlen])
        have fin : ∀ es' : Array MapEntry,EntsRep w ok (isAggB P k) vag ents' es'.toList→(∀ e∈es'.toList,e.born < clock)→(es'.toList.map (·.born)).Nodup→(execOp a.eval o).run P w=.ok (.value (.tuple #[])) (setMapW w b es' clock)→o.wpIn (FR rd) 0 P a w next Q:=by
          intro es' q1 q2 q3 hrun
          refine wp_val hrun ?_
          rw [hd]
          exact hn _ _ _ _ (g.setMapG hid hr k2 q1 q2 q3)
        rcases delM_V hkx rfl 0 k3 hd1 with ⟨hv,q1⟩ | ⟨j,en,hv,q1⟩
        · have hfk := run_findKey_flat hk w hv (ents_shaped k3)
          simp only [Option.map_none] at hfk
          have hs:=Go.MapKept.run_setObj_map (P:=P) (.map es clock) k2
          refine fin es q1 k4 k5 ?_
          simp [execOp,ho,resolve,invoke,builtin,e1,e2,Builtin.delete_,run_underlying ht,hg,hck,hfk,hs,setMapW]
        · have hfk := run_findKey_flat hk w hv (ents_shaped k3)
          simp only [Option.map_some,Nat.zero_add] at hfk
          have hs:=Go.MapKept.run_setObj_map (P:=P) (.map (es.eraseIdxIfInBounds j) clock) k2
          refine fin (es.eraseIdxIfInBounds j) (by simpa using q1) ?_ ?_ ?_
          · intro e he'
            simp only [Array.toList_eraseIdxIfInBounds] at he'
            exact k4 e (List.mem_of_mem_eraseIdx he')
          · simp only [Array.toList_eraseIdxIfInBounds]
            exact k5.sublist ((List.eraseIdx_sublist _ _).map _)
          · simp [execOp,ho,resolve,invoke,builtin,e1,e2,Builtin.delete_,run_underlying ht,hg,hck,hfk,hs,setMapW]
      · cases he
    · cases he
  · cases he

theorem op_mupd (g : Gam N w0 ok0 st ok ρ a w) (hd : o.dst=none) {t k e t1 t2 t3 : TypeId} {x y z : Operand} {x' y' z' : X} {ks : List Lk} {n : Nat} (ho : o.op=.mapUpdate t x y z) (hx : cX P t1 x=some x') (hy : cX P t2 y=some y') (hz : cX P t3 z=some z')
    (ht : P.underlying t=some (.map k e)) (hk : flatEq P 10 k=some ks) (hp : plainTy P e n=true)
    (he : mupdL st ks (isAggB P k) (isAggB P e) n (solidO st.hp (oneOf (isAggB P e) (z'.rd st.env))) (oneOf (isAggB P k) (y'.rd st.env)) (x'.rd st.env)=some st') (hn : Into N w0 ok0 st' next) : o.wpIn (FR rd) 0 P a w next Q:=by
  have h1:=rd_ok g hx
  have h2:=rd_ok g hy
  have h3:=rd_ok g hz
  generalize x'.rd st.env=l1 at he h1
  generalize y'.rd st.env=l2 at he h2
  generalize z'.rd st.env=l3 at he h3
  unfold mupdL at he
  split at he
  · rename_i key id hkey
    unfold mupdO at he
    split at he
    · rename_i kc vc is kag vag ents hkc hvc hid
      split at he
      · rename_i hc
        obtain ⟨rfl,rfl,hlen,hvl,hnot⟩:=hc
        obtain ⟨ents',hd1,rfl⟩:=setMap_some he
        obtain ⟨kx,e2,hkx⟩:=oneOf_ok hkey h2
        have hko : isAggB P k=false→kc.length=1:=fun h => by
          rw [h] at hkey
          have:=oneOf_len hkey
          have h':=(scalTVs_ok (w1:=w) (ok':=ok) hkc hkx).length
          rw [hkx.length] at h'
          omega
        obtain ⟨cs,hcs,hso⟩ : ∃ cs,oneOf (isAggB P e) l3=some cs∧solidCells st.hp cs=some (vc,is):=by
          cases hoo : oneOf (isAggB P e) l3 with
          | none => rw [hoo] at hvc; cases hvc
          | some cs => rw [hoo] at hvc; exact ⟨cs,rfl,hvc⟩
        obtain ⟨vx,e3,hvx⟩:=oneOf_ok hcs h3
        have gf:=g.frozen is
        have hvals:=solidCells_ok g hso hvx
        have hvlen : isAggB P e=false→vc.length=1:=fun h => by
          simp only [plainTy,h,Bool.and_eq_true,Bool.false_or,beq_iff_eq] at hp
          omega
        have hpv:=vals_pack hvals hvlen
        have hpk : PackRep w (okPlus ok ρ st.hp is) (isAggB P k) kc (packV (isAggB P k) kx):=vals_pack (scalTVs_ok hkc hkx) hko
        have hid' : (Sx.freezeAll st.hp is) id=some (.map false (isAggB P k) (isAggB P e) ents):=by rw [freezeAll_not is st.hp id hnot,hid]
        have h1' : LRep w (okPlus ok ρ st.hp is) ρ (Sx.freezeAll st.hp is) (.m id) (a.eval x):=by
          simp only [LRep,hid',MRep]
          simpa only [LRep,hid,MRep] using h1
        have hkx' : LReps w (okPlus ok ρ st.hp is) ρ (Sx.freezeAll st.hp is) true key kx:=by
          have hq:=scalTVs_ok (w1:=w) (ok':=okPlus ok ρ st.hp is) hkc hkx
          have : ∀ {ls : List LV} {ts : List TV} {xs : List Value},scalTVs ls=some ts→ValsRep w (okPlus ok ρ st.hp is) true ts xs→LReps w (okPlus ok ρ st.hp is) ρ (Sx.freezeAll st.hp is) true ls xs:=by
            intro ls
            induction ls with
            | nil => intro ts xs h hv; obtain rfl:=Option.some.inj h; simp only [ValsRep] at hv; simp only [LReps]; exact hv
            | cons l ls ih =>
              intro ts xs h hv
              simp only [scalTVs] at h
              unfold consO at h
              split at h
              · rename_i q1 q2
                obtain rfl:=Option.some.inj h
                simp only [ValsRep] at hv
                obtain ⟨v,r,rfl,r1,r2,r3⟩:=hv
                simp only [LReps]
                refine ⟨v,r,rfl,r1,?_,ih q2 r3⟩
                unfold scalTV at q1
                split at q1
                all_goals first | (cases q1; done) | (obtain rfl:=Option.some.inj q1; simp only [LRep]; exact r2)
              · cases h
          exact this hkc hq
        obtain ⟨b,K,es,clock,e1,hr,k2,k3,k4,k5⟩:=map_form gf hid' h1'
        have hg:=Go.MapKept.run_getObj_map (P:=P) k2
        have hck:=(run_checkKey_flat (P:=P) false 10 hk 10000 (by omega)).2 kx w (by rw [hkx.length]; have:=(scalTVs_ok (w1:=w) (ok':=ok) hkc hkx).length; rw [hkx.length] at this; omega)
        rcases updM_V (st:={ st with hp:=Sx.freezeAll st.hp is }) hkx' rfl hpk hpv 0 k3 hd1 with ⟨hv,q1⟩ | ⟨j,en,hv,q2,q3,q1⟩
        · have hfk := run_findKey_flat hk w hv (ents_shaped k3)
          simp only [Option.map_none] at hfk
          have hs:=Go.MapKept.run_setObj_map (P:=P) (.map (es.push ⟨packV (isAggB P k) kx,packV (isAggB P e) vx,clock⟩) (clock+1)) k2
          have hrun : (execOp a.eval o).run P w=.ok .skip (setMapW w b (es.push ⟨packV (isAggB P k) kx,packV (isAggB P e) vx,clock⟩) (clock+1)):=by
            simp [execOp,ho,e1,e2,e3,Instr.mapUpdate,run_underlying ht,hg,hck,hfk,hs,setMapW]
          refine wp_skip' hrun ?_
          refine Into.skip hd (gf.setMapG hid' hr k2 (by simpa using q1 clock) ?_ ?_) hn
          · intro e' he'
            simp only [Array.toList_push,List.mem_append,List.mem_singleton] at he'
            rcases he' with he' | rfl
            · exact Nat.lt_succ_of_lt (k4 e' he')
            · exact Nat.lt_succ_self _
          · simp only [Array.toList_push, List.map_append, List.map_cons, List.map_nil]
            rw [List.nodup_append]
            refine ⟨k5,by simp,?_⟩
            intro x hx y hy
            obtain ⟨e',he',rfl⟩:=List.mem_map.1 hx
            simp only [List.mem_singleton] at hy
            subst hy
            exact Nat.ne_of_lt (k4 e' he')
        · have hfk := run_findKey_flat hk w hv (ents_shaped k3)
          simp only [Option.map_some,Nat.zero_add] at hfk
          have hsh : Shaped (isAggB P k) en.key:=ents_shaped k3 en (List.mem_of_getElem? q2)
          have hst:=run_stays (P:=P) hsh (fun h => by have:=hko h; omega) q3 w
          have hget : es[j]?=some en:=by simpa using q2
          have hs:=Go.MapKept.run_setObj_map (P:=P) (.map (es.modify j fun q => { q with key:=packV (isAggB P k) kx,val:=packV (isAggB P e) vx }) clock) k2
          have hrun : (execOp a.eval o).run P w=.ok .skip (setMapW w b (es.modify j fun x => { x with key:=packV (isAggB P k) kx,val:=packV (isAggB P e) vx }) clock):=by
            simp [execOp,ho,e1,e2,e3,Instr.mapUpdate,run_underlying ht,hg,hck,hfk,hget,hst,hs,setMapW]
          have hborn : (es.modify j fun x => { x with key:=packV (isAggB P k) kx,val:=packV (isAggB P e) vx }).toList.map (·.born)=es.toList.map (·.born):=by
            rw [Array.toList_modify]
            apply List.ext_getElem?
            intro i
            simp only [List.getElem?_map,List.getElem?_modify]
            cases es.toList[i]? with
            | none => simp
            | some e' => by_cases hij : j=i<;>simp [hij]
          refine wp_skip' hrun ?_
          refine Into.skip hd (gf.setMapG hid' hr k2 (by rw [Array.toList_modify]; exact q1) ?_ ?_) hn
          · intro e' he'
            have : e'.born∈es.toList.map (·.born):=by rw [← hborn]; exact List.mem_map.2 ⟨e',he',rfl⟩
            obtain ⟨e'',h1'',h2''⟩:=List.mem_map.1 this
            rw [← h2'']
            exact k4 e'' h1''
          · rw [hborn]; exact k5
      · cases he
    · cases he
  · cases he
end
end Go.Proofs.Ytcecojdeljbjoaa.Sx
namespace Go.Proofs.Ytcecojdeljbjoaa.Sx
open Go Go.RowKit
section
variable {P : Program} {N : Rm} {w0 : World} {ok0 : Nat→Prop} {st st' : St} {ok : Nat→Prop} {ρ : Rho} {a : Act} {w w' : World}
  {next : Act→World→Prop} {Q : Exit→Act→World→Prop} {o : Oper} {rd : Option Nat}

theorem cutZ_some {z : ByteArray} {h l : Option Nat} {r : LV} (e : cutZ z h l=some r) : ∃ h' l',h=some h'∧l=some l'∧r=.v (.str (z.extract l' h')):=by
  cases h with
  | none => cases l<;>cases e
  | some h => cases l with
    | none => cases e
    | some l => exact ⟨_,_,rfl,rfl,(Option.some.inj e).symm⟩

theorem op_ssl (g : Gam N w0 ok0 st ok ρ a w) {d : Nat} (hd : o.dst=some d) (hN : N.may d) {t : TypeId} {x : Operand} {x' : X} {lo hi : Option Operand} {lo' hi' : Option X} (ho : o.op=.slice t x lo hi none)
    (hx : cX P t x=some x') (hlo : cOX P t lo=some lo') (hhi : cOX P t hi=some hi') (hu : P.underlying t=some .string)
    (he : setM st d (sslL st.env lo' hi' (x'.rd st.env))=some st') (hn : Into N w0 ok0 st' next) : o.wpIn (FR rd) 0 P a w next Q:=by
  obtain ⟨r,hr,rfl⟩:=setM_some he
  have h1:=rd_ok g hx
  generalize hl1 : x'.rd st.env=l1 at hr h1
  unfold sslL at hr
  split at hr
  · rename_i z
    have e1:=lv_str h1
    obtain ⟨h',l',eh,el,rfl⟩:=cutZ_some hr
    rw [eh] at el
    obtain ⟨b1,b2,b3⟩:=bounds2 (P:=P) g hlo hhi eh el false z.size (Nat.le_refl _)
    refine ok_val g hd hN (v:=.string (z.extract l' h')) ?_ (lrep_v trep_str) hn
    simp [execOp,ho,e1,Instr.sliceAt,Instr.slice,run_underlying hu,b3]
  · cases hr

theorem byteRows_rep {w : World} {ok : Nat→Prop} {b : Nat} : ∀ (bs : List UInt8) (o : Nat),(∀ j (h : j < bs.length),w.cell? ⟨b,o+j,none⟩=some (.int .u8 (bs[j].toNat : Int)))→RowsRep w ok 1 b (byteRows bs) o
  | [],o,_ => by simp only [byteRows,RowsRep]
  | c :: bs, o, h => by
    simp only [byteRows,RowsRep,CellsRep]
    refine ⟨rfl,⟨⟨_,h 0 (by simp),rfl,by simp only [TRep]; rfl⟩,trivial⟩,byteRows_rep bs (o+1) fun j hj => ?_⟩
    have:=h (j+1) (by simpa using hj)
    simpa [Nat.add_assoc,Nat.add_comm 1 j] using this

theorem op_s2b (g : Gam N w0 ok0 st ok ρ a w) {d : Nat} (hd : o.dst=some d) (hN : N.may d) {src dst e t1 : TypeId} {x : Operand} {x' : X} (ho : o.op=.convert src dst x) (hx : cX P t1 x=some x')
    (hs : P.underlying src=some .string) (hdst : P.underlying dst=some (.slice e)) (he8 : P.underlying e=some (.int .u8))
    (he : setM st d (s2bL (x'.rd st.env))=some st') (hn : Into N w0 ok0 st' next) : o.wpIn (FR rd) 0 P a w next Q:=by
  obtain ⟨r,hr,rfl⟩:=setM_some he
  have h1:=rd_ok g hx
  generalize hl1 : x'.rd st.env=l1 at hr h1
  unfold s2bL at hr
  split at hr
  · rename_i z
    have e1:=lv_str h1
    split at hr
    · rename_i hz
      obtain rfl:=Option.some.inj hr
      have hrun:=run_bytes_of_string (P:=P) w src dst e z hs hdst he8
      generalize hc : grownCap w z.size 0 e=cap at hrun
      have hge : z.size≤cap:=hc ▸ grownCap_ge w z.size 0 e
      have hle : cap≤maxLen:=hc ▸ grownCap_le_maxLen w z.size 0 e (by simp only [maxLen]; omega)
      generalize hX : Obj.cells (bytesRow z cap) e ((bytesRow z cap).size,(bytesRow z cap).size+1)=X at hrun
      have hb0 : w.drew.heap.size=w.heap.size:=rfl
      have hbw : Below w.heap.size w (w.drew.alloc X):=(below_drew w).alloc (Nat.le_refl _) _
      have g1:=g.world hbw
      have hsz : (w.drew.alloc X).heap.size=w.heap.size+1:=by show (w.heap.push X).size=_; simp
      have g2:=g1.grow (ok':=fun b => ok b∨b=w.heap.size) (fun b hb => .inl hb)
        (fun b hb hlt => by
          rcases hb with hb | rfl
          · exact g.old b hb hlt
          · exact absurd hlt (Nat.not_lt.2 g.below.size))
        (fun b hb => by
          rcases hb with hb | rfl
          · exact g1.free b hb
          · refine ⟨by omega, fun id p K hp hown hr => ?_⟩
            have hpl : p.live=true:=own_live hown
            exact Nat.lt_irrefl _ (g.fresh id p _ K hp hpl hr).2)
        (fun b p hr hw hb => by
          rcases hb with hb | rfl
          · exact (g.res b p hr).2.2.1 hw hb
          · rw [g.res_none] at hr; cases hr)
      refine wp_val (v:=.slice (some ⟨w.heap.size,0,none⟩) z.size cap) (w':=w.drew.alloc X) (by simp [execOp,ho,e1,hrun]) ?_
      rw [hd]
      refine hn _ _ _ _ (g2.put hN (lrep_v ?_))
      simp only [TRep]
      refine ⟨_,_,_,rfl,by rw [byteRows_length,Array.length_toList]; rfl,hge,hle,(fun e' h' => by cases h'),.inr ⟨_,_,rfl,.inr rfl,byteRows_rep _ 0 fun j hj => ?_⟩⟩
      have hnew : (w.drew.alloc X).heap[w.heap.size]?=some X:=by
        show (w.heap.push X)[w.heap.size]?=_
        simp
      have hj' : j < z.data.size:=by simpa using hj
      have hb:=bytesRow_at z cap j hj'
      subst hX
      simp only [World.cell?,hnew,Nat.zero_add]
      simpa using hb
    · cases hr
  · cases hr

/-! ### new bytes that become a text's -/
theorem CellsRep.cell {w w' : World} {ok ok' : Nat→Prop} (hs : Same w w' ok ok') {b : Nat} (hb : ∀ j,w'.cell? ⟨b,j,none⟩=w.cell? ⟨b,j,none⟩) : ∀ {cells : List TV} {o : Nat},CellsRep w ok b cells o→CellsRep w' ok' b cells o
  | [],o,h => by simp only [CellsRep]
  | t :: ts, o, h => by
    simp only [CellsRep] at h ⊢
    obtain ⟨⟨v,h1,h2,h3⟩,h4⟩:=h
    exact ⟨⟨v,(hb o).trans h1,h2,h3.to hs⟩,CellsRep.cell hs hb h4⟩
theorem RowsRep.cell {w w' : World} {ok ok' : Nat→Prop} (hs : Same w w' ok ok') {sz b : Nat} (hb : ∀ j,w'.cell? ⟨b,j,none⟩=w.cell? ⟨b,j,none⟩) : ∀ {rows : List (List TV)} {o : Nat},RowsRep w ok sz b rows o→RowsRep w' ok' sz b rows o
  | [],o,h => by simp only [RowsRep]
  | r :: rs, o, h => by
    simp only [RowsRep] at h ⊢
    exact ⟨h.1,CellsRep.cell hs hb h.2.1,RowsRep.cell hs hb h.2.2⟩
theorem Gam.aside (g : Gam N w0 ok0 st ok ρ a w) {b : Nat} {w1 : World} (hbw : Below b w w1) (hfr : w0.heap.size≤b) (hother : ∀ k,k≠b→w1.heap[k]?=w.heap[k]?) (hsz : w1.heap.size=w.heap.size) (hnot : ¬ ok b)
    (hno : ∀ i p K,st.hp i=some p→p.live=true→ρ i≠some (b,K)) (hres : N.res b=none) : Gam N w0 ok0 st ok ρ a w1:=by
  have hs : Same w w1 ok ok:=fun k h => ⟨hother k (fun e => hnot (e ▸ h)),h⟩
  have hl:=Later.refl ρ st.hp
  exact {
    below:=g.below.trans (hbw.mono hfr),old:=g.old,size:=g.size,defers:=g.defers
    free:=fun c hc => ⟨by rw [hsz]; exact (g.free c hc).1,(g.free c hc).2⟩
    inj:=g.inj
    fresh:=fun i o c K h1 h2 h3 => ⟨(g.fresh i o c K h1 h2 h3).1,by rw [hsz]; exact (g.fresh i o c K h1 h2 h3).2⟩
    obj:=fun i o h => by
      cases hlv : o.live with
      | false => cases o with
        | dead => trivial
        | var f cs => simp [Ob.live] at hlv
        | arr f e sz rows => simp [Ob.live] at hlv
        | map f k v es => simp [Ob.live] at hlv
      | true => exact (g.obj i o h).to hs hl rfl fun c K hr => hother c fun e => hno i o K h hlv (e ▸ hr)
    env:=fun k => (g.env k).to hs hl
    kept:=g.kept
    gh:=fun k => (g.gh k).to hs hl
    res:=fun c o h => by
      obtain ⟨h1,h2,h3,h4⟩:=g.res c o h
      exact ⟨h1,(hother c fun e => by rw [e,hres] at h; cases h).trans h2,h3,h4⟩ }
theorem op_cvb (g : Gam N w0 ok0 st ok ρ a w) {d : Nat} (hd : o.dst=some d) (hN : N.may d) {t e t1 : TypeId} {x : Operand} {x' : X} (ho : o.op=.convert t t x) (hx : cX P t1 x=some x')
    (ht : P.underlying t=some (.slice e)) (he8 : P.underlying e=some (.int .u8))
    (he : cvbL st d (x'.rd st.env)=some st') (hn : Into N w0 ok0 st' next) : o.wpIn (FR rd) 0 P a w next Q:=by
  have h1:=rd_ok g hx
  generalize hl1 : x'.rd st.env=l1 at he h1
  unfold cvbL at he
  split at he
  · rename_i id len
    unfold cvbO at he
    split at he
    · rename_i e' r rows hid
      split at he
      · rename_i hlen
        obtain rfl:=Option.some.inj he
        simp only [LRep,hid,SRep] at h1
        obtain ⟨ad,cap,e1,k1,k2,k3,k4⟩:=h1
        rcases g.obj id _ hid with ⟨_,q2⟩ | ⟨b,K,cur,q1,q2,q3,q4,q5,q6⟩
        · cases q2
        have had : ad=some ⟨b,0,none⟩:=by
          rcases k4 with ⟨k5,_⟩ | ⟨b',K',k5,k6,k7⟩
          · rw [q1] at k5; cases k5
          · rw [q1] at k5
            obtain ⟨rfl,rfl⟩ : b=b'∧K=K':=by simpa using k5
            rcases k7 with k7 | ⟨_,k7⟩
            · simpa using k7
            · omega
        subst had
        have hfr:=g.fresh id _ b K hid rfl q1
        have hnot : ¬ ok b:=fun h => (g.free b h).2 id _ K hid rfl q1
        have hresb : N.res b=none:=by
          cases hr : N.res b with
          | none => rfl
          | some p => exact absurd q1 ((g.res b p hr).2.2.2 id _ K hid (own_bars rfl))
        have hsh : w.shape? b=some (e',cur.size):=by unfold World.shape?; rw [q2]
        obtain ⟨w1,hw1⟩ : ∃ w1,w1=w.freeze ⟨b,cur.size,none⟩ 1:=⟨_,rfl⟩
        have hrun : (convert t t (.slice (some ⟨b,0,none⟩) len cap)).run P w=.ok (.slice (some ⟨b,0,none⟩) len cap) w1:=by
          simp [convert,run_underlying ht,run_underlying he8,markStringish,hsh,hw1]
        have hheap : w1.heap=w.heap.modify b fun
            | .cells c elem (lo,hi) => .cells c elem (if lo == hi then (cur.size,cur.size+1) else (min lo cur.size,max hi (cur.size+1)))
            | o => o:=by rw [hw1]; rfl
        have hblt:=hfr.2
        have hother : ∀ k,k≠b→w1.heap[k]?=w.heap[k]?:=fun k hk => by
          rw [hheap,Array.getElem?_modify,if_neg (fun e => hk e.symm)]
        have hat : w1.heap[b]?=some (.cells cur e' (cur.size,cur.size+1)):=by
          rw [hheap,Array.getElem?_modify,if_pos rfl,q2]
          rfl
        have hsz : w1.heap.size=w.heap.size:=by rw [hheap]; simp
        have hcell : ∀ j,w1.cell? ⟨b,j,none⟩=w.cell? ⟨b,j,none⟩:=fun j => by
          simp only [World.cell?,hat,q2]
        have hbw : Below b w w1:=by
          rw [hw1]
          exact ⟨rfl,rfl,rfl,by rw [← hw1,hsz]; exact Nat.le_refl _,fun k hk => by rw [← hw1]; exact hother k (by omega)⟩
        have g1:=g.kill id
        have hno : ∀ i p K',(upd st.hp id (some .dead)) i=some p→p.live=true→ρ i≠some (b,K'):=fun i p K' hi hp hr => by
          by_cases ei : i=id
          · subst ei
            rw [upd_same] at hi
            obtain rfl:=Option.some.inj hi
            cases hp
          · simp only [upd_ne _ _ ei] at hi
            exact ei (g.inj i id p _ b K' K hi hid hp rfl hr q1)
        have g2:=g1.aside hbw hfr.1 hother hsz hnot hno hresb
        have g3:=g2.grow (ok':=fun c => ok c∨c=b) (fun c hc => .inl hc)
          (fun c hc hlt => by
            rcases hc with hc | rfl
            · exact g.old c hc hlt
            · exact absurd hlt (Nat.not_lt.2 hfr.1))
          (fun c hc => by
            rcases hc with hc | rfl
            · exact g2.free c hc
            · exact ⟨by rw [hsz]; exact hblt,fun i p K' hi hown => hno i p K' hi (own_live hown)⟩)
          (fun c p hr hw hc => by
            rcases hc with hc | rfl
            · exact (g2.res c p hr).2.2.1 hw hc
            · rw [hresb] at hr; cases hr)
        refine wp_val (v:=.slice (some ⟨b,0,none⟩) len cap) (w':=w1) (by simp [execOp,ho,e1,hrun]) ?_
        rw [hd]
        refine hn _ _ _ _ (g3.put hN (lrep_v ?_))
        simp only [TRep]
        refine ⟨_,_,_,rfl,hlen.symm,k2,k3,(fun e' h' => by cases h'),.inr ⟨_,_,rfl,.inr rfl,?_⟩⟩
        have hs : Same w w1 ok (fun c => ok c∨c=b):=fun k h => ⟨hother k (fun e => hnot (e ▸ h)),.inl h⟩
        exact q6.cell hs hcell
      · cases he
    · cases he
  · cases he
theorem op_sst (g : Gam N w0 ok0 st ok ρ a w) (hd : o.dst=none) {t t1 : TypeId} {ad x : Operand} {p x' : X} {n : Nat} (ho : o.op=.store t ad x) (hp : cX P t1 ad=some p) (hx : cX P t x=some x') (hs : size? P t=some (n+1))
    (he : sstK st (n+1) (p.rd st.env) (solidCell st.hp (x'.rd st.env))=some st') (hn : Into N w0 ok0 st' next) : o.wpIn (FR rd) 0 P a w next Q:=by
  have h2:=rd_ok g hx
  cases hc : solidCell st.hp (x'.rd st.env) with
  | none => rw [hc] at he; cases he
  | some q =>
    obtain ⟨tv,is⟩:=q
    rw [hc] at he
    simp only [sstK] at he
    have gf:=g.frozen is
    have h1:=rd_ok gf hp
    have h3:=(solidCell_ok g hc h2).1
    exact store_ok gf hd ho hs (lp:=p.rd st.env) (lx:=.v tv) h1 (by simp only [LRep]; exact h3) he hn
end
end Go.Proofs.Ytcecojdeljbjoaa.Sx
namespace Go.Proofs.Ytcecojdeljbjoaa.Sx
open Go Go.RowKit

/-! ### results: a tree,and the blocks of its own slices,from left to right -/
abbrev Blks:=List (Option (Nat × Nat))
def ResC (w : World) (ok : Nat→Prop) : TV→Value→Blks→Prop
  | .sl (.own e) sz rows,v,bs => ∃ x ad cap,bs=[x]∧v=.slice ad rows.length cap∧cap≤maxLen∧((x=none∧rows=[]∧cap=0) ∨
      ∃ b cur,x=some (b,cap)∧ad=some ⟨b,0,none⟩∧w.heap[b]?=some (.cells cur e (0,0))∧cur.size=cap * sz∧rows.length≤cap∧RowsRep w ok sz b rows 0)
  | t,v,bs => bs=[]∧TRep w ok t v
def ResCs (w : World) (ok : Nat→Prop) (one : Bool) : List TV→List Value→Blks→Prop
  | [],vs,bs => vs=[]∧bs=[]
  | t :: ts,vs,bs => ∃ v r b1 b2,vs=v :: r∧bs=b1++b2∧(one=true→v.oneCell'=true)∧ResC w ok t v b1∧ResCs w ok one ts r b2
def ResR (w : World) (ok : Nat→Prop) : TV→Value→Blks→Prop
  | .agg cs,v,bs => ∃ vs,v=.agg vs∧ResCs w ok true cs vs.toList bs
  | t,v,bs => ResC w ok t v bs
def ResRs (w : World) (ok : Nat→Prop) : List TV→List Value→Blks→Prop
  | [],vs,bs => vs=[]∧bs=[]
  | t :: ts,vs,bs => ∃ v r b1 b2,vs=v :: r∧bs=b1++b2∧ResR w ok t v b1∧ResRs w ok ts r b2
def Res (w : World) (ok : Nat→Prop) : TV→Value→Blks→Prop
  | .tup ts,v,bs => ∃ vs,v=.tuple vs∧ResRs w ok ts vs.toList bs
  | t,v,bs => ResR w ok t v bs

def BlksOk (n : Nat) (w : World) (ok : Nat→Prop) (bs : Blks) : Prop :=
  (∀ b K,some (b,K)∈bs→n≤b∧b < w.heap.size∧¬ ok b)∧((bs.filterMap id).map Prod.fst).Nodup

def RRep (n : Nat) (w : World) (ok0 : Nat→Prop) (r : TV) (v : Value) : Prop :=
  ∃ ok1 bs,(∀ b,ok1 b→(b < n→ok0 b)∧b < w.heap.size)∧BlksOk n w ok1 bs∧Res w ok1 r v bs

def FnOK (P : Program) (f : FuncId) : Prop:=∃ fn,P.funcs[f]?=some fn∧(fn.name == "runtime.NumGoroutine")=false∧fn.body.isNone=false

def Sound (P : Program) (f : FuncId) (args : List TV) (r : TV) : Prop:=FnOK P f∧∀ (w : World) (ok : Nat→Prop) (vs : List Value),(∀ b,ok b→b < w.heap.size)→ValsRep w ok false args vs →
  Calls P f vs.toArray w fun e w' => ∃ v,e=.returned v∧Below w.heap.size w w'∧RRep w.heap.size w' ok r v

theorem Later.trans {ρ ρ' ρ'' : Rho} {h h' h'' : Hp} (a : Later ρ ρ' h h') (b : Later ρ' ρ'' h' h'') : Later ρ ρ'' h h'':=fun id o ho => by
  rcases a id o ho with hd | ⟨hr,hk⟩
  · rcases b id _ hd with h2 | ⟨_, h2⟩
    · exact .inl h2
    · rcases h2 with ⟨f, cs, f', cs', e, _⟩ | ⟨f, e, sz, rows, f', e', rows', e1, _⟩ | ⟨_, h2⟩ | ⟨f, k, v, es, f', es', e, _⟩
      · cases e
      · cases e1
      · exact .inl h2
      · cases e
  · rcases hk with ⟨f, cs, f', cs', rfl, h1⟩ | ⟨f, e, sz, rows, f', e', rows', rfl, h1, hl⟩ | ⟨rfl, h1⟩ | ⟨f, k, v, es, f', es', rfl, h1⟩
    · rcases b id _ h1 with h2 | ⟨hr2, h2⟩
      · exact .inl h2
      · rcases h2 with ⟨f1, cs1, f2, cs2, e, h3⟩ | ⟨f1, e, sz, rows, f2, e', rows', e1, _⟩ | ⟨e, _⟩ | ⟨f, k, v, es, f', es', e, _⟩
        · exact .inr ⟨hr2.trans hr,.inl ⟨f,cs,f2,cs2,rfl,h3⟩⟩
        · cases e1
        · cases e
        · cases e
    · rcases b id _ h1 with h2 | ⟨hr2, h2⟩
      · exact .inl h2
      · rcases h2 with ⟨f1, cs1, f2, cs2, e, h3⟩ | ⟨f1, e1, sz1, rows1, f2, e2, rows2, e3, h3, hl2⟩ | ⟨e, _⟩ | ⟨f, k, v, es, f', es', e, _⟩
        · cases e
        · cases e3
          exact .inr ⟨hr2.trans hr,.inr (.inl ⟨f,e,sz,rows,f2,e2,rows2,rfl,h3,Nat.le_trans hl hl2⟩)⟩
        · cases e
        · cases e
    · rcases b id _ h1 with h2 | ⟨hr2, h2⟩
      · exact .inl h2
      · rcases h2 with ⟨f1, cs1, f2, cs2, e, h3⟩ | ⟨f1, e1, sz1, rows1, f2, e2, rows2, e3, _⟩ | ⟨_, h3⟩ | ⟨f, k, v, es, f', es', e, _⟩
        · cases e
        · cases e3
        · exact .inl h3
        · cases e
    · rcases b id _ h1 with h2 | ⟨hr2, h2⟩
      · exact .inl h2
      · rcases h2 with ⟨f1, cs1, f2, cs2, e, h3⟩ | ⟨f1, e1, sz1, rows1, f2, e2, rows2, e3, _⟩ | ⟨e, _⟩ | ⟨f2, k2, v2, es2, f3, es3, e, h3⟩
        · cases e
        · cases e3
        · cases e
        · cases e
          exact .inr ⟨hr2.trans hr,.inr (.inr (.inr ⟨f,k,v,es,f3,es3,rfl,h3⟩))⟩

section
variable {P : Program} {N : Rm} {w0 : World} {ok0 : Nat→Prop} {ok : Nat→Prop} {a : Act} {w w' : World}
  {next : Act→World→Prop} {Q : Exit→Act→World→Prop} {o : Oper}

def Away (st : St) (ρ : Rho) (b : Nat) : Prop:=∀ i p K,st.hp i=some p→p.live=true→ρ i≠some (b,K)

theorem thawCells_ok {one : Bool} : ∀ {ts : List TV} {k : Nat} {st st' : St} {ls : List LV} {ρ : Rho} {vs : List Value} {bs : Blks},Gam N w0 ok0 st ok ρ a w→thawCells k ts st=some (ls,st')→ResCs w ok one ts vs bs →
    (∀ b K,some (b,K)∈bs→N.fresh w0 b∧b < w.heap.size∧¬ ok b∧Away st ρ b)→((bs.filterMap id).map Prod.fst).Nodup →
    ∃ ρ',Gam N w0 ok0 st' ok ρ' a w∧Later ρ ρ' st.hp st'.hp∧LReps w ok ρ' st'.hp one ls vs∧st'.env=st.env∧∀ b,(∀ K,some (b,K)∉bs)→Away st ρ b→Away st' ρ' b
  | [], k, st, st', ls, ρ, vs, bs, g, h, hr, hb, hnd => by
    simp only [thawCells,Option.some.injEq,Prod.mk.injEq] at h
    obtain ⟨rfl,rfl⟩:=h
    obtain ⟨rfl,rfl⟩:=hr
    exact ⟨ρ,g,Later.refl _ _,by simp only [LReps],rfl,fun _ _ h => h⟩
  | t :: ts, k, st, st', ls, ρ, vs, bs, g, h, hr, hb, hnd => by
    obtain ⟨v,r,b1,b2,rfl,rfl,h1,h2,h3⟩:=hr
    by_cases hown : ∃ e sz rows,t=.sl (.own e) sz rows
    · obtain ⟨e, sz, rows, rfl⟩ := hown
      simp only [thawCells] at h
      unfold thawOne at h
      split at h
      · rename_i hk
        obtain ⟨x,ad,cap,rfl,rfl,hcap,hx⟩:=h2
        have g1 : Gam N w0 ok0 { st with hp:=upd st.hp k (some (.arr false e sz rows)) } ok (upd ρ k x) a w:=by
          refine g.adopt hk (fun b K hxe => ?_) ?_
          · obtain ⟨q1, q2, q3, q4⟩ := hb b K (by rw [← hxe]; simp)
            exact ⟨q1,q2,q3,q4⟩
          · rcases hx with ⟨rfl, rfl, rfl⟩ | ⟨b, cur, rfl, rfl, q1, q2, q3, q4⟩
            · exact .inl ⟨upd_same _ _ _,rfl⟩
            · exact .inr ⟨b,cap,cur,upd_same _ _ _,q1,q2,hcap,q3,q4⟩
        have hl1:=later_new (ρ:=ρ) hk x (.arr false e sz rows)
        cases hth : thawCells (k+1) ts { st with hp:=upd st.hp k (some (.arr false e sz rows)) } with
        | none => rw [hth] at h; cases h
        | some q =>
          obtain ⟨ls',st2⟩:=q
          rw [hth] at h
          simp only [consT,Option.some.injEq,Prod.mk.injEq] at h
          obtain ⟨rfl,rfl⟩:=h
          have hnd' : ((b2.filterMap id).map Prod.fst).Nodup:=by
            cases x with
            | none => simpa using hnd
            | some y => simp only [List.cons_append,List.nil_append,List.filterMap_cons,id] at hnd; exact (List.nodup_cons.1 (by simpa using hnd)).2
          have away1 : ∀ b,(∀ K,some (b,K)∉[x])→Away st ρ b→Away { st with hp:=upd st.hp k (some (.arr false e sz rows)) } (upd ρ k x) b:=by
            intro b hne haw i p K hi hp hr
            by_cases ei : i=k
            · subst ei
              rw [upd_same] at hr
              exact hne K (by simp [hr])
            · simp only [upd_ne _ _ ei] at hi hr
              exact haw i p K hi hp hr
          obtain ⟨ρ',g2,hl2,hls,henv,haway⟩:=thawCells_ok (bs:=b2) g1 hth h3 (fun b K hm => by
            obtain ⟨q1,q2,q3,q4⟩:=hb b K (by simp [hm])
            refine ⟨q1,q2,q3,away1 b (fun K' hm' => ?_) q4⟩
            have hx' : x=some (b,K'):=(List.mem_singleton.1 hm').symm
            subst hx'
            simp only [List.cons_append,List.nil_append,List.filterMap_cons,id,List.map_cons,List.nodup_cons] at hnd
            exact hnd.1 (List.mem_map.2 ⟨(b,K),List.mem_filterMap.2 ⟨some (b,K),hm,rfl⟩,rfl⟩)) hnd'
          refine ⟨ρ',g2,hl1.trans hl2,?_,henv,fun b hne haw => haway b (fun K hm => hne K (by simp [hm])) (away1 b (fun K hm => hne K (List.mem_append_left _ hm)) haw)⟩
          simp only [LReps]
          refine ⟨_,r,rfl,h1,?_,hls⟩
          have hs : LRep w ok (upd ρ k x) (upd st.hp k (some (.arr false e sz rows))) (.s k 0 rows.length) (.slice ad rows.length cap):=by
            simp only [LRep,upd_same,SRep]
            rcases hx with ⟨rfl,rfl,rfl⟩ | ⟨b,cur,rfl,rfl,q1,q2,q3,q4⟩
            · exact ⟨ad,0,rfl,by simp,by simp,hcap,.inl (by simp)⟩
            · exact ⟨_,cap,rfl,by simp,q3,hcap,.inr ⟨b,cap,rfl,by omega,.inl (by simp)⟩⟩
          exact hs.to (Same.refl _ _) hl2
      · cases h
    · have hR : ResC w ok t v b1↔b1=[]∧TRep w ok t v:=by
        cases t with
        | sl fl sz rows => cases fl with
          | own e => exact absurd ⟨e,sz,rows,rfl⟩ hown
          | shared => exact Iff.rfl
          | tight e => exact Iff.rfl
        | _ => exact Iff.rfl
      obtain ⟨rfl,ht⟩:=hR.1 h2
      have hT : thawCells k (t :: ts) st=consT (.v t) (thawCells (k+1) ts st):=by
        cases t with
        | sl fl sz rows => cases fl with
          | own e => exact absurd ⟨e,sz,rows,rfl⟩ hown
          | shared => rfl
          | tight e => rfl
        | _ => rfl
      rw [hT] at h
      cases hth : thawCells (k+1) ts st with
      | none => rw [hth] at h; cases h
      | some q =>
        obtain ⟨ls',st2⟩:=q
        rw [hth] at h
        simp only [consT,Option.some.injEq,Prod.mk.injEq] at h
        obtain ⟨rfl,rfl⟩:=h
        obtain ⟨ρ',g2,hl2,hls,henv,haway⟩:=thawCells_ok (bs:=b2) g hth h3 (fun b K hm => hb b K (by simpa using hm)) (by simpa using hnd)
        refine ⟨ρ',g2,hl2,?_,henv,fun b hne haw => haway b (fun K hm => hne K (by simpa using hm)) haw⟩
        simp only [LReps]
        exact ⟨v,r,rfl,h1,by simp only [LRep]; exact ht,hls⟩

theorem thaw1_ok {t : TV} {k : Nat} {st st' : St} {l : LV} {ρ : Rho} {v : Value} {bs : Blks} (g : Gam N w0 ok0 st ok ρ a w) (h : thaw1 k t st=some (l,st')) (hr : ResR w ok t v bs)
    (hb : ∀ b K,some (b,K)∈bs→N.fresh w0 b∧b < w.heap.size∧¬ ok b∧Away st ρ b) (hnd : ((bs.filterMap id).map Prod.fst).Nodup) :
    ∃ ρ',Gam N w0 ok0 st' ok ρ' a w∧Later ρ ρ' st.hp st'.hp∧LRep w ok ρ' st'.hp l v∧st'.env=st.env∧∀ b,(∀ K,some (b,K)∉bs)→Away st ρ b→Away st' ρ' b:=by
  by_cases ha : ∃ cs,t=.agg cs
  · obtain ⟨cs, rfl⟩ := ha
    simp only [thaw1] at h
    split at h
    · obtain ⟨vs, rfl, h2⟩ := hr
      cases hth : thawCells k cs st with
      | none => rw [hth] at h; cases h
      | some q =>
        obtain ⟨ls,st2⟩:=q
        rw [hth] at h
        simp only [aggT,Option.some.injEq,Prod.mk.injEq] at h
        obtain ⟨rfl,rfl⟩:=h
        obtain ⟨ρ',q1,q2,q3,q4,q5⟩:=thawCells_ok g hth h2 hb hnd
        exact ⟨ρ',q1,q2,by simp only [LRep]; exact ⟨vs,rfl,q3⟩,q4,q5⟩
    · cases h
  · have hR : ResR w ok t v bs↔ResC w ok t v bs:=by cases t with
      | agg cs => exact absurd ⟨cs,rfl⟩ ha
      | _ => exact Iff.rfl
    have hT : thaw1 k t st=oneT (thawCells k [t] st):=by cases t with
      | agg cs => exact absurd ⟨cs,rfl⟩ ha
      | _ => rfl
    rw [hT] at h
    cases hth : thawCells k [t] st with
    | none => rw [hth] at h; cases h
    | some q =>
      obtain ⟨ls,st2⟩:=q
      rw [hth] at h
      match ls,h with
      | [l'], h =>
        simp only [oneT,Option.some.injEq,Prod.mk.injEq] at h
        obtain ⟨rfl,rfl⟩:=h
        obtain ⟨ρ',q1,q2,q3,q4,q5⟩:=thawCells_ok (one:=false) (vs:=[v]) (bs:=bs) g hth ⟨v,[],bs,[],rfl,by simp,by simp,hR.1 hr,rfl,rfl⟩ hb hnd
        simp only [LReps] at q3
        obtain ⟨v',r',e,_,q6,_⟩:=q3
        obtain ⟨rfl,_⟩:=List.cons.inj e
        exact ⟨ρ',q1,q2,q6,q4,q5⟩

theorem nodup_right {b1 b2 : Blks} (h : (((b1++b2).filterMap id).map Prod.fst).Nodup) : ((b1.filterMap id).map Prod.fst).Nodup∧((b2.filterMap id).map Prod.fst).Nodup∧∀ b K K',some (b,K)∈b1→some (b,K')∉b2:=by
  rw [List.filterMap_append,List.map_append,List.nodup_append] at h
  refine ⟨h.1,h.2.1,fun b K K' h1 h2 => ?_⟩
  exact h.2.2 b (List.mem_map.2 ⟨(b,K),List.mem_filterMap.2 ⟨_,h1,rfl⟩,rfl⟩) b (List.mem_map.2 ⟨(b,K'),List.mem_filterMap.2 ⟨_,h2,rfl⟩,rfl⟩) rfl

theorem thawVs_ok : ∀ {ts : List TV} {k : Nat} {st st' : St} {ls : List LV} {ρ : Rho} {vs : List Value} {bs : Blks},Gam N w0 ok0 st ok ρ a w→thawVs k ts st=some (ls,st')→ResRs w ok ts vs bs →
    (∀ b K,some (b,K)∈bs→N.fresh w0 b∧b < w.heap.size∧¬ ok b∧Away st ρ b)→((bs.filterMap id).map Prod.fst).Nodup →
    ∃ ρ',Gam N w0 ok0 st' ok ρ' a w∧Later ρ ρ' st.hp st'.hp∧LReps w ok ρ' st'.hp false ls vs∧st'.env=st.env∧∀ b,(∀ K,some (b,K)∉bs)→Away st ρ b→Away st' ρ' b
  | [], k, st, st', ls, ρ, vs, bs, g, h, hr, hb, hnd => by
    simp only [thawVs,Option.some.injEq,Prod.mk.injEq] at h
    obtain ⟨rfl,rfl⟩:=h
    obtain ⟨rfl,rfl⟩:=hr
    exact ⟨ρ,g,Later.refl _ _,by simp only [LReps],rfl,fun _ _ h => h⟩
  | t :: ts, k, st, st', ls, ρ, vs, bs, g, h, hr, hb, hnd => by
    obtain ⟨v,r,b1,b2,rfl,rfl,h2,h3⟩:=hr
    obtain ⟨n1,n2,n3⟩:=nodup_right hnd
    simp only [thawVs] at h
    cases h1 : thaw1 k t st with
    | none => rw [h1] at h; cases h
    | some q =>
      obtain ⟨l,st1⟩:=q
      rw [h1] at h
      simp only [thawK] at h
      obtain ⟨ρ1,q1,q2,q3,q4,q5⟩:=thaw1_ok g h1 h2 (fun b K hm => hb b K (by simp [hm])) n1
      cases h4 : thawVs (k+16) ts st1 with
      | none => rw [h4] at h; cases h
      | some q =>
        obtain ⟨ls',st2⟩:=q
        rw [h4] at h
        simp only [consT,Option.some.injEq,Prod.mk.injEq] at h
        obtain ⟨rfl,rfl⟩:=h
        obtain ⟨ρ',p1,p2,p3,p4,p5⟩:=thawVs_ok (bs:=b2) q1 h4 h3 (fun b K hm => by
          obtain ⟨r1,r2,r3,r4⟩:=hb b K (by simp [hm])
          exact ⟨r1,r2,r3,q5 b (fun K' hm' => n3 b K' K hm' hm) r4⟩) n2
        refine ⟨ρ',p1,q2.trans p2,?_,p4.trans q4,fun b hne haw => p5 b (fun K hm => hne K (by simp [hm])) (q5 b (fun K hm => hne K (by simp [hm])) haw)⟩
        simp only [LReps]
        exact ⟨v,r,rfl,by simp,q3.to (Same.refl _ _) p2,p3⟩

theorem thaw_ok {t : TV} {k : Nat} {st st' : St} {l : LV} {ρ : Rho} {v : Value} {bs : Blks} (g : Gam N w0 ok0 st ok ρ a w) (h : thaw k t st=some (l,st')) (hr : Res w ok t v bs)
    (hb : ∀ b K,some (b,K)∈bs→N.fresh w0 b∧b < w.heap.size∧¬ ok b∧Away st ρ b) (hnd : ((bs.filterMap id).map Prod.fst).Nodup) :
    ∃ ρ',Gam N w0 ok0 st' ok ρ' a w∧LRep w ok ρ' st'.hp l v:=by
  by_cases ha : ∃ cs,t=.tup cs
  · obtain ⟨cs, rfl⟩ := ha
    simp only [thaw] at h
    obtain ⟨vs,rfl,h2⟩:=hr
    cases hth : thawVs k cs st with
    | none => rw [hth] at h; cases h
    | some q =>
      obtain ⟨ls,st2⟩:=q
      rw [hth] at h
      simp only [tupT,Option.some.injEq,Prod.mk.injEq] at h
      obtain ⟨rfl,rfl⟩:=h
      obtain ⟨ρ',q1,q2,q3,q4,q5⟩:=thawVs_ok g hth h2 hb hnd
      exact ⟨ρ',q1,by simp only [LRep]; exact ⟨vs,rfl,q3⟩⟩
  · have hR : Res w ok t v bs↔ResR w ok t v bs:=by cases t with
      | tup cs => exact absurd ⟨cs,rfl⟩ ha
      | _ => exact Iff.rfl
    have hT : thaw k t st=thaw1 k t st:=by cases t with
      | tup cs => exact absurd ⟨cs,rfl⟩ ha
      | _ => rfl
    rw [hT] at h
    obtain ⟨ρ',q1,q2,q3,_⟩:=thaw1_ok g h (hR.1 hr) hb hnd
    exact ⟨ρ',q1,q3⟩

/-! ### flat results name no memory -/
theorem scalar_any {t : TV} (h : t.scalar=true) {v : Value} {ok ok' : Nat→Prop} {w w' : World} (ht : TRep w ok t v) : TRep w' ok' t v:=by
  cases t<;>first | (simp [TV.scalar] at h; done) | (simp only [TRep] at ht ⊢; exact ht)
theorem scalar_resC {t : TV} (h : t.scalar=true) {v : Value} {bs : Blks} {ok ok' : Nat→Prop} (hr : ResC w ok t v bs) : ResC w ok' t v bs∧bs=[]:=by
  have key : ∀ ok,ResC w ok t v bs↔bs=[]∧TRep w ok t v:=fun ok => by cases t<;>first | exact Iff.rfl | (simp [TV.scalar] at h; done)
  have h1:=(key ok).1 hr
  exact ⟨(key ok').2 ⟨h1.1,scalar_any h h1.2⟩,h1.1⟩
theorem scalars_resCs {one : Bool} : ∀ {ts : List TV},scalars ts=true→∀ {vs : List Value} {bs : Blks} {ok ok' : Nat→Prop},ResCs w ok one ts vs bs→ResCs w ok' one ts vs bs∧bs=[]
  | [],_,vs,bs,ok,ok',hr => ⟨hr,hr.2⟩
  | t :: ts, h, vs, bs, ok, ok', hr => by
    simp only [scalars,Bool.and_eq_true] at h
    obtain ⟨v,r,b1,b2,rfl,rfl,h1,h2,h3⟩:=hr
    have k1:=scalar_resC (ok':=ok') h.1 h2
    have k2:=scalars_resCs h.2 (ok':=ok') h3
    exact ⟨⟨v,r,b1,b2,rfl,rfl,h1,k1.1,k2.1⟩,by rw [k1.2,k2.2]; rfl⟩
theorem flat_resR {t : TV} (h : (∃ cs,t=.agg cs∧scalars cs=true)∨t.scalar=true) {v : Value} {bs : Blks} {ok ok' : Nat→Prop} (hr : ResR w ok t v bs) : ResR w ok' t v bs∧bs=[]:=by
  rcases h with ⟨cs,rfl,h⟩ | h
  · obtain ⟨vs, rfl, h2⟩ := hr
    have k:=scalars_resCs h (ok':=ok') h2
    exact ⟨⟨vs,rfl,k.1⟩,k.2⟩
  · have key : ∀ ok, ResR w ok t v bs ↔ ResC w ok t v bs := fun ok => by cases t <;> first | exact Iff.rfl | (simp [TV.scalar] at h; done)
    have k:=scalar_resC (ok':=ok') h ((key ok).1 hr)
    exact ⟨(key ok').2 k.1,k.2⟩
theorem flats_resRs : ∀ {ts : List TV},TV.flat.flats ts=true→∀ {vs : List Value} {bs : Blks} {ok ok' : Nat→Prop},ResRs w ok ts vs bs→ResRs w ok' ts vs bs∧bs=[]
  | [],_,vs,bs,ok,ok',hr => ⟨hr,hr.2⟩
  | t :: ts, h, vs, bs, ok, ok', hr => by
    have hh : ((∃ cs,t=.agg cs∧scalars cs=true)∨t.scalar=true)∧TV.flat.flats ts=true:=by
      cases t with
      | agg cs => simp only [TV.flat.flats,Bool.and_eq_true] at h; exact ⟨.inl ⟨cs,rfl,h.1⟩,h.2⟩
      | _ => simp only [TV.flat.flats,Bool.and_eq_true] at h; exact ⟨.inr h.1,h.2⟩
    obtain ⟨v,r,b1,b2,rfl,rfl,h2,h3⟩:=hr
    have k1:=flat_resR (ok':=ok') hh.1 h2
    have k2:=flats_resRs hh.2 (ok':=ok') h3
    exact ⟨⟨v,r,b1,b2,rfl,rfl,k1.1,k2.1⟩,by rw [k1.2,k2.2]; rfl⟩
theorem flat_res {t : TV} (h : t.flat=true) {v : Value} {bs : Blks} {ok ok' : Nat→Prop} (hr : Res w ok t v bs) : Res w ok' t v bs∧bs=[]:=by
  cases t with
  | tup ts =>
    obtain ⟨vs,rfl,h2⟩:=hr
    have k:=flats_resRs (by simpa [TV.flat] using h) (ok':=ok') h2
    exact ⟨⟨vs,rfl,k.1⟩,k.2⟩
  | agg cs =>
    have k:=flat_resR (.inl ⟨cs,rfl,by simpa [TV.flat] using h⟩) (ok':=ok') hr
    exact ⟨k.1,k.2⟩
  | sl _ _ _ => simp [TV.flat,TV.scalar] at h
  | pc _ => simp [TV.flat,TV.scalar] at h
  | fn _ _ => simp [TV.flat,TV.scalar] at h
  | unk => simp [TV.flat,TV.scalar] at h
  | int k n => have k:=scalar_resC (t:=.int k n) rfl (ok':=ok') hr; exact ⟨k.1,k.2⟩
  | bool b => have k:=scalar_resC (t:=.bool b) rfl (ok':=ok') hr; exact ⟨k.1,k.2⟩
  | str z => have k:=scalar_resC (t:=.str z) rfl (ok':=ok') hr; exact ⟨k.1,k.2⟩
  | nilfn => have k:=scalar_resC (t:=.nilfn) rfl (ok':=ok') hr; exact ⟨k.1,k.2⟩

/-! ### a result,with more blocks free -/
theorem ResC.to {ok ok' : Nat→Prop} (hs : Same w w ok ok') {t : TV} {v : Value} {bs : Blks} (h : ResC w ok t v bs) : ResC w ok' t v bs:=by
  by_cases hown : ∃ e sz rows,t=.sl (.own e) sz rows
  · obtain ⟨e, sz, rows, rfl⟩ := hown
    obtain ⟨x,ad,cap,h1,h2,h3,h4⟩:=h
    refine ⟨x,ad,cap,h1,h2,h3,?_⟩
    rcases h4 with h4 | ⟨b,cur,q1,q2,q3,q4,q5,q6⟩
    · exact .inl h4
    · exact .inr ⟨b,cur,q1,q2,q3,q4,q5,q6.at hs rfl⟩
  · have hR : ∀ ok,ResC w ok t v bs↔bs=[]∧TRep w ok t v:=fun ok => by
      cases t with
      | sl fl sz rows => cases fl with
        | own e => exact absurd ⟨e,sz,rows,rfl⟩ hown
        | shared => exact Iff.rfl
        | tight e => exact Iff.rfl
      | _ => exact Iff.rfl
    have k:=(hR ok).1 h
    exact (hR ok').2 ⟨k.1,k.2.to hs⟩
theorem ResCs.to {ok ok' : Nat→Prop} (hs : Same w w ok ok') {one : Bool} : ∀ {ts : List TV} {vs : List Value} {bs : Blks},ResCs w ok one ts vs bs→ResCs w ok' one ts vs bs
  | [],_,_,h => h
  | t :: ts, vs, bs, h => by
    obtain ⟨v,r,b1,b2,q1,q2,q3,q4,q5⟩:=h
    exact ⟨v,r,b1,b2,q1,q2,q3,q4.to hs,ResCs.to hs q5⟩
theorem ResR.to {ok ok' : Nat→Prop} (hs : Same w w ok ok') {t : TV} {v : Value} {bs : Blks} (h : ResR w ok t v bs) : ResR w ok' t v bs:=by
  by_cases ha : ∃ cs,t=.agg cs
  · obtain ⟨cs, rfl⟩ := ha
    obtain ⟨vs,h1,h2⟩:=h
    exact ⟨vs,h1,h2.to hs⟩
  · have hR : ∀ ok,ResR w ok t v bs↔ResC w ok t v bs:=fun ok => by cases t with
      | agg cs => exact absurd ⟨cs,rfl⟩ ha
      | _ => exact Iff.rfl
    exact (hR ok').2 (((hR ok).1 h).to hs)
theorem ResRs.to {ok ok' : Nat→Prop} (hs : Same w w ok ok') : ∀ {ts : List TV} {vs : List Value} {bs : Blks},ResRs w ok ts vs bs→ResRs w ok' ts vs bs
  | [],_,_,h => h
  | t :: ts, vs, bs, h => by
    obtain ⟨v,r,b1,b2,q1,q2,q4,q5⟩:=h
    exact ⟨v,r,b1,b2,q1,q2,q4.to hs,ResRs.to hs q5⟩
theorem Res.to {ok ok' : Nat→Prop} (hs : Same w w ok ok') {t : TV} {v : Value} {bs : Blks} (h : Res w ok t v bs) : Res w ok' t v bs:=by
  by_cases ha : ∃ cs,t=.tup cs
  · obtain ⟨cs, rfl⟩ := ha
    obtain ⟨vs,h1,h2⟩:=h
    exact ⟨vs,h1,h2.to hs⟩
  · have hR : ∀ ok,Res w ok t v bs↔ResR w ok t v bs:=fun ok => by cases t with
      | tup cs => exact absurd ⟨cs,rfl⟩ ha
      | _ => exact Iff.rfl
    exact (hR ok').2 (((hR ok).1 h).to hs)

theorem okPlus_nil {ρ : Rho} {h : Hp} : okPlus ok ρ h []=ok:=by
  funext b
  simp [okPlus]

theorem Gam.called {st st' : St} {ρ : Rho} (g : Gam N w0 ok0 st ok ρ a w) (hb : Below w.heap.size w w') {r : TV} {v : Value} {l : LV} {k : Nat} (hr : RRep w.heap.size w' ok r v) (h : thaw k r st=some (l,st')) :
    ∃ ok' ρ',Gam N w0 ok0 st' ok' ρ' a w'∧LRep w' ok' ρ' st'.hp l v:=by
  obtain ⟨ok1,bs,h1,⟨h2,h3⟩,h4⟩:=hr
  have g1:=g.world hb
  have g2 : Gam N w0 ok0 st (fun b => ok b∨ok1 b) ρ a w':=by
    refine g1.grow (fun b hb' => .inl hb') (fun b hb' hlt => ?_) (fun b hb' => ?_) (fun b o hr hw hb' => ?_)
    · rcases hb' with hb' | hb'
      · exact g.old b hb' hlt
      · exact g.old b ((h1 b hb').1 (Nat.lt_of_lt_of_le hlt g.below.size)) hlt
    · rcases hb' with hb' | hb'
      · exact g1.free b hb'
      · refine ⟨(h1 b hb').2, fun i p K hi hown hri => ?_⟩
        have hl : p.live=true:=by cases p<;>simp_all [Ob.own,Ob.live]
        have hlt:=(g.fresh i p b K hi hl hri).2
        exact (g.free b ((h1 b hb').1 hlt)).2 i p K hi hown hri
    · obtain ⟨_, k2, k3, _⟩ := g.res b o hr
      rcases hb' with hb' | hb'
      · exact k3 hw hb'
      · exact k3 hw ((h1 b hb').1 (Array.getElem?_eq_some_iff.1 k2).1)
  have hs : Same w' w' ok1 (fun b => ok b∨ok1 b):=fun b hb' => ⟨rfl,.inr hb'⟩
  obtain ⟨ρ',q1,q2⟩:=thaw_ok g2 h (h4.to hs) (fun b K hm => by
    obtain ⟨r1,r2,r3⟩:=h2 b K hm
    refine ⟨⟨Nat.le_trans g.below.size r1,g.res_none r1⟩,r2,fun ho => ?_,fun i p K' hi hl hri => ?_⟩
    · rcases ho with ho | ho
      · exact Nat.lt_irrefl _ (Nat.lt_of_lt_of_le (g.free b ho).1 r1)
      · exact r3 ho
    · exact Nat.lt_irrefl _ (Nat.lt_of_lt_of_le (g.fresh i p b K' hi hl hri).2 r1)) h3
  exact ⟨_,ρ',q1,q2⟩
end
end Go.Proofs.Ytcecojdeljbjoaa.Sx
namespace Go.Proofs.Ytcecojdeljbjoaa.Sx
open Go Go.RowKit

section
variable {P : Program} {C : Cs} {N : Rm} {w0 : World} {ok0 : Nat→Prop} {ok : Nat→Prop} {a : Act} {w w' : World} {st st' : St} {ρ : Rho}
  {next : Act→World→Prop} {Q : Exit→Act→World→Prop} {o : Oper} {rd : Option Nat}

/-! ### values that name nothing from 'lo' on -/
theorem lk_low {lo i : Nat} (h : i < lo) : ∀ j : List (Nat × Nat),lk lo i j=some i
  | [] => by simp only [lk,if_pos h]
  | (x,y) :: r => by simp only [lk,if_neg (show ¬ lo+x=i by omega),lk_low h r]
theorem maskC_low {lo lo' : Nat} (hlo : lo≤lo') (j : List (Nat × Nat)) (l : LV) : maskC lo' j (maskC lo [] l)=maskC lo [] l:=by
  cases l with
  | p id off =>
    by_cases h : id < lo
    · have e : maskC lo [] (.p id off) = .p id off := by simp only [maskC, lk, if_pos h, renP]
      rw [e]; simp only [maskC,lk_low (Nat.lt_of_lt_of_le h hlo),renP]
    · have e : maskC lo [] (.p id off) = .u := by simp only [maskC, lk, if_neg h, renP]
      rw [e]; rfl
  | pe id r off =>
    by_cases h : id < lo
    · have e : maskC lo [] (.pe id r off) = .pe id r off := by simp only [maskC, lk, if_pos h, renE]
      rw [e]; simp only [maskC,lk_low (Nat.lt_of_lt_of_le h hlo),renE]
    · have e : maskC lo [] (.pe id r off) = .u := by simp only [maskC, lk, if_neg h, renE]
      rw [e]; rfl
  | s id off len =>
    by_cases h : id < lo
    · have e : maskC lo [] (.s id off len) = .s id off len := by simp only [maskC, lk, if_pos h, renS]
      rw [e]; simp only [maskC,lk_low (Nat.lt_of_lt_of_le h hlo),renS]
    · have e : maskC lo [] (.s id off len) = .u := by simp only [maskC, lk, if_neg h, renS]
      rw [e]; rfl
  | m id =>
    by_cases h : id < lo
    · have e : maskC lo [] (.m id) = .m id := by simp only [maskC, lk, if_pos h, renM]
      rw [e]; simp only [maskC,lk_low (Nat.lt_of_lt_of_le h hlo),renM]
    · have e : maskC lo [] (.m id) = .u := by simp only [maskC, lk, if_neg h, renM]
      rw [e]; rfl
  | v t => rfl
  | u => rfl
  | agg cs => rfl
  | fn f cs => rfl
  | tup cs => cases cs<;>rfl
theorem maskCs_low {lo lo' : Nat} (hlo : lo≤lo') (j : List (Nat × Nat)) : ∀ ls : List LV,maskCs lo' j (maskCs lo [] ls)=maskCs lo [] ls
  | [] => rfl
  | l :: ls => by simp only [maskCs,maskC_low hlo,maskCs_low hlo j ls]
theorem mask2_cons_low {lo lo' : Nat} (hlo : lo≤lo') (j : List (Nat × Nat)) (l : LV) (ls : List LV) (ih : mask2 lo' j (mask2 lo [] ls)=mask2 lo [] ls) : mask2 lo' j (mask2 lo [] (l :: ls))=mask2 lo [] (l :: ls):=by
  have key : ∀ (x : LV) (q : Nat) (i : List (Nat × Nat)) (r : List LV),(∀ cs,x≠.agg cs)→mask2 q i (x :: r)=maskC q i x :: mask2 q i r:=fun x q i r hx => by
    cases x with
    | agg cs => exact absurd rfl (hx cs)
    | _ => rfl
  by_cases h : ∃ cs,l=.agg cs
  · obtain ⟨cs, rfl⟩ := h
    simp only [mask2,maskCs_low hlo,ih]
  · have hl : ∀ cs, l ≠ .agg cs := fun cs e => h ⟨cs, e⟩
    rw [key l lo [] ls hl]
    have hm : ∀ cs,maskC lo [] l≠.agg cs:=fun cs e => by
      cases l with
      | p id off => simp only [maskC,lk] at e; by_cases h : id < lo<;>simp [h,renP] at e
      | pe id r off => simp only [maskC,lk] at e; by_cases h : id < lo<;>simp [h,renE] at e
      | s id off len => simp only [maskC,lk] at e; by_cases h : id < lo<;>simp [h,renS] at e
      | m id => simp only [maskC,lk] at e; by_cases h : id < lo<;>simp [h,renM] at e
      | v t => cases e
      | u => cases e
      | agg cs => exact absurd rfl (hl cs)
      | fn f cs => cases e
      | tup cs => cases cs<;>cases e
    rw [key _ lo' j _ hm,maskC_low hlo,ih]
theorem mask2_low {lo lo' : Nat} (hlo : lo≤lo') (j : List (Nat × Nat)) : ∀ ls : List LV,mask2 lo' j (mask2 lo [] ls)=mask2 lo [] ls
  | [] => rfl
  | l :: ls => mask2_cons_low hlo j l ls (mask2_low hlo j ls)
theorem maskL_low {lo lo' : Nat} (hlo : lo≤lo') (j : List (Nat × Nat)) (l : LV) : maskL lo' j (maskL lo [] l)=maskL lo [] l:=by
  cases l with
  | agg cs => simp only [maskL,maskCs_low hlo]
  | fn f cs => simp only [maskL,maskCs_low hlo]
  | tup cs => cases cs with
    | nil => rfl
    | cons c cs =>
      have h:=mask2_low hlo j (c :: cs)
      have e : ∃ x xs,mask2 lo [] (c :: cs)=x :: xs:=by cases c<;>exact ⟨_,_,rfl⟩
      obtain ⟨x,xs,e⟩:=e
      simp only [maskL,e]
      rw [e] at h
      rw [h]
  | p id off =>
    have h:=maskC_low hlo j (.p id off)
    by_cases hi : id < lo
    · have e : maskL lo [] (.p id off) = .p id off := by simp only [maskL, maskC, lk, if_pos hi, renP]
      rw [e]; simp only [maskL,maskC,lk_low (Nat.lt_of_lt_of_le hi hlo),renP]
    · have e : maskL lo [] (.p id off) = .u := by simp only [maskL, maskC, lk, if_neg hi, renP]
      rw [e]; rfl
  | pe id r off =>
    by_cases hi : id < lo
    · have e : maskL lo [] (.pe id r off) = .pe id r off := by simp only [maskL, maskC, lk, if_pos hi, renE]
      rw [e]; simp only [maskL,maskC,lk_low (Nat.lt_of_lt_of_le hi hlo),renE]
    · have e : maskL lo [] (.pe id r off) = .u := by simp only [maskL, maskC, lk, if_neg hi, renE]
      rw [e]; rfl
  | s id off len =>
    by_cases hi : id < lo
    · have e : maskL lo [] (.s id off len) = .s id off len := by simp only [maskL, maskC, lk, if_pos hi, renS]
      rw [e]; simp only [maskL,maskC,lk_low (Nat.lt_of_lt_of_le hi hlo),renS]
    · have e : maskL lo [] (.s id off len) = .u := by simp only [maskL, maskC, lk, if_neg hi, renS]
      rw [e]; rfl
  | m id =>
    by_cases hi : id < lo
    · have e : maskL lo [] (.m id) = .m id := by simp only [maskL, maskC, lk, if_pos hi, renM]
      rw [e]; simp only [maskL,maskC,lk_low (Nat.lt_of_lt_of_le hi hlo),renM]
    · have e : maskL lo [] (.m id) = .u := by simp only [maskL, maskC, lk, if_neg hi, renM]
      rw [e]; rfl
  | v t => rfl
  | u => rfl
theorem low_fix {lo lo' : Nat} (hlo : lo≤lo') {l : LV} (h : maskL lo [] l=l) (j : List (Nat × Nat)) : maskL lo' j l=l:=by
  have:=maskL_low hlo j l
  rwa [h] at this

theorem maskC_weak {ρ : Rho} {h : Hp} {lo : Nat} {l : LV} {x : Value} (hl : LRep w ok ρ h l x) : LRep w ok ρ h (maskC lo [] l) x:=by
  cases l with
  | p id off => simp only [maskC,lk]; by_cases hi : id < lo<;>simp only [hi,if_true,if_false,renP]; exact hl; simp only [LRep]
  | pe id r off => simp only [maskC,lk]; by_cases hi : id < lo<;>simp only [hi,if_true,if_false,renE]; exact hl; simp only [LRep]
  | s id off len => simp only [maskC,lk]; by_cases hi : id < lo<;>simp only [hi,if_true,if_false,renS]; exact hl; simp only [LRep]
  | m id => simp only [maskC,lk]; by_cases hi : id < lo<;>simp only [hi,if_true,if_false,renM]; exact hl; simp only [LRep]
  | v t => exact hl
  | u => exact hl
  | agg cs => simp only [maskC,LRep]
  | fn f cs => simp only [maskC,LRep]
  | tup cs => cases cs with
    | nil => exact hl
    | cons c cs => simp only [maskC,LRep]
theorem maskCs_weak {ρ : Rho} {h : Hp} {lo : Nat} {one : Bool} : ∀ {ls : List LV} {xs : List Value},LReps w ok ρ h one ls xs→LReps w ok ρ h one (maskCs lo [] ls) xs
  | [],xs,hl => hl
  | l :: ls, xs, hl => by
    simp only [LReps] at hl
    obtain ⟨v,r,rfl,h1,h2,h3⟩:=hl
    simp only [maskCs,LReps]
    exact ⟨v,r,rfl,h1,maskC_weak h2,maskCs_weak h3⟩
theorem mask2_weak {ρ : Rho} {h : Hp} {lo : Nat} {one : Bool} : ∀ {ls : List LV} {xs : List Value},LReps w ok ρ h one ls xs→LReps w ok ρ h one (mask2 lo [] ls) xs
  | [],xs,hl => hl
  | l :: ls, xs, hl => by
    simp only [LReps] at hl
    obtain ⟨v,r,rfl,h1,h2,h3⟩:=hl
    have ih:=mask2_weak (lo:=lo) h3
    by_cases ha : ∃ cs,l=.agg cs
    · obtain ⟨cs, rfl⟩ := ha
      simp only [LRep] at h2
      obtain ⟨vs,k1,k2⟩:=h2
      simp only [mask2,LReps]
      exact ⟨v,r,rfl,h1,by simp only [LRep]; exact ⟨vs,k1,maskCs_weak k2⟩,ih⟩
    · have e : mask2 lo [] (l :: ls)=maskC lo [] l :: mask2 lo [] ls:=by
        cases l with
        | agg cs => exact absurd ⟨cs,rfl⟩ ha
        | _ => rfl
      rw [e]
      simp only [LReps]
      exact ⟨v,r,rfl,h1,maskC_weak h2,ih⟩
theorem maskL_weak {ρ : Rho} {h : Hp} {lo : Nat} {l : LV} {x : Value} (hl : LRep w ok ρ h l x) : LRep w ok ρ h (maskL lo [] l) x:=by
  unfold maskL
  split
  · simp only [LRep] at hl ⊢
    obtain ⟨vs,k1,k2⟩:=hl
    exact ⟨vs,k1,maskCs_weak k2⟩
  · simp only [LRep] at hl ⊢
    obtain ⟨vs,k1,k2⟩:=hl
    exact ⟨vs,k1,maskCs_weak k2⟩
  · simp only [LRep] at hl ⊢
    obtain ⟨vs,k1,k2⟩:=hl
    exact ⟨vs,k1,mask2_weak k2⟩
  · exact maskC_weak hl

def GoodI (P : Program) (CI : FuncId→Nat→Hp→List LV→Option (LV × Hp)) : Prop:=∀ f lo h args l h',CI f lo h args=some (l,h')→FnOK P f ∧
  ∀ (N : Rm) (w0 : World) (ok0 : Nat→Prop) (env : Nat→LV) (ok : Nat→Prop) (ρ : Rho) (a : Act) (w : World) (vs : List Value),Gam N w0 ok0 ⟨env,h⟩ ok ρ a w→(∀ k,maskL lo [] (env k)=env k)→(∀ k,maskL lo [] (N.gh k).1=(N.gh k).1) →
    LReps w ok ρ h false args vs→Calls P f vs.toArray w fun e w' => ∃ v,e=.returned v∧∃ ok' ρ',Gam N w0 ok0 ⟨env,h'⟩ ok' ρ' a w'∧LRep w' ok' ρ' h' l v
def GoodIt (P : Program) (it : FuncId→Option ICode) : Prop:=∀ f ic,it f=some ic→∃ fn c A B,P.funcs[f]?=some fn∧(fn.name == "runtime.NumGoroutine")=false∧fn.body=some c∧ic=(cFn P A B fn).body∧fn.results=#[]
def Good (P : Program) (C : Cs) : Prop:=(∀ f args r,C.t f args=some r→Sound P f args r)∧GoodI P C.i∧GoodIt P C.it
def YOk (P : Program) (C : Cs) (N : Rm) : Prop:=∀ R,C.y=some R→∃ (l : Nat) (r : Loop) (n : Sl) (A B : List (Nat × GC)),
  N.T 0=.func (.yield l) #[] #[]∧N.res l=some (.loop r)∧r.state=.ready∧r.pending=none∧r.params=#[R.p]∧R.bd=.seq (cCode P n A B r.assign) (cCode P n A B r.body)∧n.rg=false∧n.n≤r.tmps.size∧n.may R.p=true ∧
  (∀ k,∃ j,N.gh j=(R.env k,r.tmps.getD k undef)) ∧
  ((∀ id k,(look id A).ok=true→maskL R.lo (look id A).ids (N.gh k).1=(N.gh k).1)∧∀ id k,(look id B).ok=true→maskL R.lo (look id B).ids (N.gh k).1=(N.gh k).1) ∧
  ((∀ id l,(look id A).ok=true→maskL R.lo (look id A).ids (maskL R.lo R.ks l)=maskL R.lo R.ks l)∧∀ id l,(look id B).ok=true→maskL R.lo (look id B).ids (maskL R.lo R.ks l)=maskL R.lo R.ks l)∧∀ q∈R.ks,q.1=q.2
def GoodAt (P : Program) (C : Cs) (N : Rm) (lo : Nat) : Prop:=Good P C∧(∀ f lo' h args r,C.i f lo' h args=some r→∀ k,maskL (lo+1000000) [] (N.gh k).1=(N.gh k).1)∧YOk P C N

theorem callA_ok (hC : Good P C) (g : Gam N w0 ok0 st ok ρ a w) {d lo : Nat} (hd : o.dst=some d) (hN : N.may d) {f : FuncId} {ls : List LV} {vs : List Value} (hv : LReps w ok ρ st.hp false ls vs)
    (he : callA C lo d f st (solidArgs st.hp ls)=some st') (hn : Into N w0 ok0 st' next) :
    FnOK P f∧Calls P f vs.toArray w fun
      | .returned v,w'' => next (a.put o.dst v) w''
      | .panicked chain,w'' => Q (.panic chain) a w''
      | .outgrown,_ => LetsOut Q:=by
  cases hs : solidArgs st.hp ls with
  | none => rw [hs] at he; cases he
  | some q =>
    obtain ⟨ts,is⟩:=q
    rw [hs] at he
    simp only [callA] at he
    cases hr : C.t f ts with
    | none => rw [hr] at he; cases he
    | some r =>
      rw [hr] at he
      simp only [callR] at he
      obtain ⟨hf,hsound⟩:=hC.1 f ts r hr
      refine ⟨hf,?_⟩
      have gf:=g.frozen is
      have hvals:=solidArgs_ok g hs hv
      have hcall:=hsound w (okPlus ok ρ st.hp is) vs (fun b hb => (gf.free b hb).1) hvals
      refine hcall.mono fun e w'' ⟨v,he',hb,hrr⟩ => ?_
      subst he'
      show next (a.put o.dst v) w''
      rw [hd]
      cases hth : thaw (lo+(1000+d * 64)) r { st with hp:=if is.isEmpty || r.flat then st.hp else Sx.freezeAll st.hp is } with
      | none => rw [hth] at he; cases he
      | some q =>
        obtain ⟨l,st2⟩:=q
        rw [hth] at he
        simp only [callT,Option.some.injEq] at he
        subst he
        cases hc : (is.isEmpty || r.flat) with
        | false =>
          rw [hc] at hth
          obtain ⟨ok',ρ',g',hl⟩:=gf.called hb hrr hth
          exact hn _ _ _ _ (g'.put hN hl)
        | true =>
          rw [hc] at hth
          have hrr' : RRep w.heap.size w'' ok r v:=by
            have hc' : is.isEmpty=true∨r.flat=true:=by simpa using hc
            rcases hc' with h1 | h1
            · have : is = [] := by simpa using h1
              subst this
              rw [okPlus_nil] at hrr
              exact hrr
            · obtain ⟨ok1, bs, q1, q2, q3⟩ := hrr
              have k:=flat_res h1 (ok':=ok) q3
              obtain ⟨k1,rfl⟩:=k
              refine ⟨ok,[],fun b hb' => ⟨fun _ => hb',Nat.lt_of_lt_of_le (g.free b hb').1 hb.size⟩,⟨by simp,by simp⟩,k1⟩
          obtain ⟨ok',ρ',g',hl⟩:=g.called hb hrr' hth
          exact hn _ _ _ _ (g'.put hN hl)

theorem op_call (hC : Good P C) (g : Gam N w0 ok0 st ok ρ a w) {d lo : Nat} (hd : o.dst=some d) (hN : N.may d) {ts : Array TypeId} {us : List TypeId} {t1 : TypeId} {xs : Array Operand} {ys : List X} {x : Operand} {x' : X}
    (ho : o.op=.call { callee:=.value x,args:=xs,argTypes:=ts }) (hx : cX P t1 x=some x') (hxs : cXs P us xs.toList=some ys)
    (he : callF C lo d (rds st.env ys) st (x'.rd st.env)=some st') (hn : Into N w0 ok0 st' next) : o.wpIn (FR rd) 0 P a w next Q:=by
  have h1:=rd_ok g hx
  have h2:=rds_ok g hxs
  generalize x'.rd st.env=l at h1 he
  have key : ∀ f caps cs,a.eval x=.func (.func f) #[] cs→LReps w ok ρ st.hp false caps cs.toList→callA C lo d f st (solidArgs st.hp (rds st.env ys++caps))=some st'→o.wpIn (FR rd) 0 P a w next Q:=by
    intro f caps cs e1 e2 e3
    have hv : LReps w ok ρ st.hp false (rds st.env ys++caps) (xs.toList.map a.eval++cs.toList):=by
      refine LReps.of (by simp [← h2.length,e2.length]) fun i l hi => ?_
      by_cases hlt : i < (rds st.env ys).length
      · rw [List.getElem?_append_left hlt] at hi
        obtain ⟨v,q1,q2,q3⟩:=h2.get i l hi
        exact ⟨v,by rw [List.getElem?_append_left (by rw [h2.length]; exact hlt)]; exact q1,q2,q3⟩
      · rw [List.getElem?_append_right (by omega)] at hi
        obtain ⟨v,q1,q2,q3⟩:=e2.get _ l hi
        exact ⟨v,by rw [List.getElem?_append_right (by rw [h2.length]; omega),h2.length]; exact q1,q2,q3⟩
    obtain ⟨⟨fn,hf,hf1,hf2⟩,hc⟩:=callA_ok (Q:=Q) hC g hd hN hv e3 hn
    have hf1' : fn.name≠"runtime.NumGoroutine":=by simpa using hf1
    have hf2' : fn.body≠none:=fun e => by rw [e] at hf2; cases hf2
    have hrun : (execOp a.eval o).run P w=.ok (.enter f (xs.map a.eval++cs)) w:=by
      simp [execOp,ho,resolve,Deferred.ofValue,e1,invoke,callFunc,hf,hf1',hf2']
    refine ⟨fun _ _ => trivial,?_⟩
    rw [sem_at hrun (fun d e => by cases e),Oper.uponIn_enter]
    refine ⟨fun h => by simp [FR,Fence.wide] at h,?_⟩
    have : (xs.map a.eval++cs)=(xs.toList.map a.eval++cs.toList).toArray:=by apply Array.ext'; simp
    rw [this]
    exact calls_fr hc
  unfold callF at he
  split at he
  · simp only [LRep] at h1
    obtain ⟨cs,e1,e2⟩:=h1
    exact key _ _ cs e1 e2 he
  · simp only [LRep, TRep] at h1
    obtain ⟨cs,e1,e2⟩:=h1
    refine key _ _ cs e1 ?_ he
    rename_i caps
    clear key he e1
    generalize cs.toList=vs at e2
    induction caps generalizing vs with
    | nil => simp only [ValsRep] at e2; simp only [liftV,LReps]; exact e2
    | cons c caps ih =>
      simp only [ValsRep] at e2
      obtain ⟨v,r,q1,q2,q3,q4⟩:=e2
      simp only [liftV,LReps]
      exact ⟨v,r,q1,q2,by simp only [LRep]; exact q3,ih _ q4⟩
  · cases he

theorem liftV_lreps {h : Hp} {ρ : Rho} : ∀ {caps : List TV} {vs : List Value},ValsRep w ok false caps vs→LReps w ok ρ h false (liftV caps) vs
  | [],vs,e => by simp only [ValsRep] at e; simp only [liftV,LReps]; exact e
  | c :: caps, vs, e => by
    simp only [ValsRep] at e
    obtain ⟨v,r,q1,q2,q3,q4⟩:=e
    simp only [liftV,LReps]
    exact ⟨v,r,q1,q2,by simp only [LRep]; exact q3,liftV_lreps q4⟩
theorem lreps_append {h : Hp} {ρ : Rho} : ∀ {ls bs : List LV} {us vs : List Value},LReps w ok ρ h false ls us→LReps w ok ρ h false bs vs→LReps w ok ρ h false (ls++bs) (us++vs)
  | [],bs,us,vs,h1,h2 => by simp only [LReps] at h1; subst h1; exact h2
  | a :: ls, bs, us, vs, h1, h2 => by
    simp only [LReps] at h1
    obtain ⟨v,r,rfl,q2,q3,q4⟩:=h1
    simp only [List.cons_append,LReps]
    exact ⟨v,r++vs,rfl,q2,q3,lreps_append q4 h2⟩

/-! ### results that name nothing but their own -/
theorem scalarRows_any : ∀ {rows : List (List TV)},scalarRows rows=true→∀ {w : World} {ok ok' : Nat→Prop} {sz b o : Nat},RowsRep w ok sz b rows o→RowsRep w ok' sz b rows o
  | [],_,w,ok,ok',sz,b,o,h => by simp only [RowsRep]
  | r :: rs, hs, w, ok, ok', sz, b, o, h => by
    simp only [scalarRows,Bool.and_eq_true] at hs
    simp only [RowsRep] at h ⊢
    refine ⟨h.1,?_,scalarRows_any hs.2 h.2.2⟩
    have key : ∀ {cs : List TV} {o : Nat},scalars cs=true→CellsRep w ok b cs o→CellsRep w ok' b cs o:=by
      intro cs
      induction cs with
      | nil => intro o _ _; simp only [CellsRep]
      | cons c cs ih =>
        intro o hc h
        simp only [scalars,Bool.and_eq_true] at hc
        simp only [CellsRep] at h ⊢
        obtain ⟨⟨v,h1,h2,h3⟩,h4⟩:=h
        exact ⟨⟨v,h1,h2,scalar_any hc.1 h3⟩,ih hc.2 h4⟩
    exact key hs.1 h.2.1
theorem lone1_resC {t : TV} (h : t.lone1=true) {v : Value} {bs : Blks} {ok ok' : Nat→Prop} (hr : ResC w ok t v bs) : ResC w ok' t v bs:=by
  by_cases hown : ∃ e sz rows,t=.sl (.own e) sz rows
  · obtain ⟨e, sz, rows, rfl⟩ := hown
    obtain ⟨x,ad,cap,h1,h2,h3,h4⟩:=hr
    refine ⟨x,ad,cap,h1,h2,h3,?_⟩
    rcases h4 with h4 | ⟨b,cur,q1,q2,q3,q4,q5,q6⟩
    · exact .inl h4
    · exact .inr ⟨b,cur,q1,q2,q3,q4,q5,scalarRows_any h q6⟩
  · have hs : t.scalar=true:=by
      cases t with
      | sl fl sz rows => cases fl with
        | own e => exact absurd ⟨e,sz,rows,rfl⟩ hown
        | shared => simp [TV.lone1,TV.scalar] at h
        | tight e => simp [TV.lone1,TV.scalar] at h
      | _ => exact h
    exact (scalar_resC hs hr).1
theorem lones_resCs {one : Bool} : ∀ {ts : List TV},lones ts=true→∀ {vs : List Value} {bs : Blks} {ok ok' : Nat→Prop},ResCs w ok one ts vs bs→ResCs w ok' one ts vs bs
  | [],_,vs,bs,ok,ok',hr => hr
  | t :: ts, h, vs, bs, ok, ok', hr => by
    simp only [lones,Bool.and_eq_true] at h
    obtain ⟨v,r,b1,b2,rfl,rfl,h1,h2,h3⟩:=hr
    exact ⟨v,r,b1,b2,rfl,rfl,h1,lone1_resC h.1 h2,lones_resCs h.2 h3⟩
theorem loneR_resR {t : TV} (h : t.loneR=true) {v : Value} {bs : Blks} {ok ok' : Nat→Prop} (hr : ResR w ok t v bs) : ResR w ok' t v bs:=by
  by_cases ha : ∃ cs,t=.agg cs
  · obtain ⟨cs, rfl⟩ := ha
    obtain ⟨vs,rfl,h2⟩:=hr
    exact ⟨vs,rfl,lones_resCs h h2⟩
  · have hR : ∀ ok,ResR w ok t v bs↔ResC w ok t v bs:=fun ok => by cases t with
      | agg cs => exact absurd ⟨cs,rfl⟩ ha
      | _ => exact Iff.rfl
    have h' : t.lone1=true:=by cases t with
      | agg cs => exact absurd ⟨cs,rfl⟩ ha
      | _ => exact h
    exact (hR ok').2 (lone1_resC h' ((hR ok).1 hr))
theorem lonesR_resRs : ∀ {ts : List TV},lonesR ts=true→∀ {vs : List Value} {bs : Blks} {ok ok' : Nat→Prop},ResRs w ok ts vs bs→ResRs w ok' ts vs bs
  | [],_,vs,bs,ok,ok',hr => hr
  | t :: ts, h, vs, bs, ok, ok', hr => by
    simp only [lonesR,Bool.and_eq_true] at h
    obtain ⟨v,r,b1,b2,rfl,rfl,h2,h3⟩:=hr
    exact ⟨v,r,b1,b2,rfl,rfl,loneR_resR h.1 h2,lonesR_resRs h.2 h3⟩
theorem lone_res {t : TV} (h : t.lone=true) {v : Value} {bs : Blks} {ok ok' : Nat→Prop} (hr : Res w ok t v bs) : Res w ok' t v bs:=by
  by_cases ha : ∃ cs,t=.tup cs
  · obtain ⟨cs, rfl⟩ := ha
    obtain ⟨vs,rfl,h2⟩:=hr
    exact ⟨vs,rfl,lonesR_resRs h h2⟩
  · have hR : ∀ ok,Res w ok t v bs↔ResR w ok t v bs:=fun ok => by cases t with
      | tup cs => exact absurd ⟨cs,rfl⟩ ha
      | _ => exact Iff.rfl
    have h' : t.loneR=true:=by cases t with
      | tup cs => exact absurd ⟨cs,rfl⟩ ha
      | _ => exact h
    exact (hR ok').2 (loneR_resR h' ((hR ok).1 hr))
theorem loneA_ok (hC : Good P C) (g : Gam N w0 ok0 st ok ρ a w) {d lo : Nat} (hd : o.dst=some d) (hN : N.may d) {f : FuncId} {ls : List LV} {vs : List Value} (hv : LReps w ok ρ st.hp false ls vs)
    (he : loneA C lo d f st (solidArgs st.hp ls)=some st') (hn : Into N w0 ok0 st' next) :
    FnOK P f∧Calls P f vs.toArray w fun
      | .returned v,w'' => next (a.put o.dst v) w''
      | .panicked chain,w'' => Q (.panic chain) a w''
      | .outgrown,_ => LetsOut Q:=by
  cases hs : solidArgs st.hp ls with
  | none => rw [hs] at he; cases he
  | some q =>
    obtain ⟨ts,is⟩:=q
    rw [hs] at he
    simp only [loneA] at he
    cases hr : C.t f ts with
    | none => rw [hr] at he; cases he
    | some r =>
      rw [hr] at he
      simp only [loneK] at he
      split at he
      · rename_i hlone
        obtain ⟨hf,hsound⟩:=hC.1 f ts r hr
        refine ⟨hf,?_⟩
        have gf:=g.frozen is
        have hvals:=solidArgs_ok g hs hv
        have hcall:=hsound w (okPlus ok ρ st.hp is) vs (fun b hb => (gf.free b hb).1) hvals
        refine hcall.mono fun e w'' ⟨v,he',hb,hrr⟩ => ?_
        subst he'
        show next (a.put o.dst v) w''
        rw [hd]
        cases hth : thaw (lo+(1000+d * 64)) r st with
        | none => rw [hth] at he; cases he
        | some q =>
          obtain ⟨l,st2⟩:=q
          rw [hth] at he
          simp only [callT,Option.some.injEq] at he
          subst he
          have hrr' : RRep w.heap.size w'' ok r v:=by
            obtain ⟨ok1,bs,q1,⟨q2,q4⟩,q3⟩:=hrr
            refine ⟨ok,bs,fun b hb' => ⟨fun _ => hb',Nat.lt_of_lt_of_le (g.free b hb').1 hb.size⟩,⟨fun b K hm => ?_,q4⟩,lone_res hlone q3⟩
            obtain ⟨r1,r2,_⟩:=q2 b K hm
            exact ⟨r1,r2,fun hb' => Nat.lt_irrefl _ (Nat.lt_of_lt_of_le (g.free b hb').1 r1)⟩
          obtain ⟨ok',ρ',g',hl⟩:=g.called hb hrr' hth
          exact hn _ _ _ _ (g'.put hN hl)
      · cases he

theorem op_icall {lo : Nat} (hC : GoodAt P C N lo) (g : Gam N w0 ok0 st ok ρ a w) {d : Nat} (hd : o.dst=some d) (hN : N.may d) {ts : Array TypeId} {us : List TypeId} {t1 : TypeId} {xs : Array Operand} {ys : List X} {x : Operand} {x' : X}
    (ho : o.op=.call { callee:=.value x,args:=xs,argTypes:=ts }) (hx : cX P t1 x=some x') (hxs : cXs P us xs.toList=some ys)
    {k : Nat} (he : icallF C lo d k (rds st.env ys) st (x'.rd st.env)=some st') (hn : Into N w0 ok0 st' next) : o.wpIn (FR rd) 0 P a w next Q:=by
  have h1:=rd_ok g hx
  have h2:=rds_ok g hxs
  generalize x'.rd st.env=l at h1 he
  have key : ∀ f caps cs,a.eval x=.func (.func f) #[] cs→LReps w ok ρ st.hp false caps cs.toList→(if k=0 then loneA C lo d f st (solidArgs st.hp (rds st.env ys++caps)) else icallK d (lo+1000000 * k) st (C.i f (lo+1000000 * k) st.hp (rds st.env ys++caps)))=some st'→o.wpIn (FR rd) 0 P a w next Q:=by
    intro f caps cs e1 e2 e3
    by_cases hk : k=0
    · rw [if_pos hk] at e3
      have hv:=lreps_append h2 e2
      obtain ⟨⟨fn,hf,hf1,hf2⟩,hc⟩:=loneA_ok (Q:=Q) hC.1 g hd hN hv e3 hn
      have hf1' : fn.name≠"runtime.NumGoroutine":=by simpa using hf1
      have hf2' : fn.body≠none:=fun e => by rw [e] at hf2; cases hf2
      have hrun : (execOp a.eval o).run P w=.ok (.enter f (xs.map a.eval++cs)) w:=by
        simp [execOp,ho,resolve,Deferred.ofValue,e1,invoke,callFunc,hf,hf1',hf2']
      refine ⟨fun _ _ => trivial,?_⟩
      rw [sem_at hrun (fun d e => by cases e),Oper.uponIn_enter]
      refine ⟨fun h => by simp [FR,Fence.wide] at h,?_⟩
      have : (xs.map a.eval++cs)=(xs.toList.map a.eval++cs.toList).toArray:=by apply Array.ext'; simp
      rw [this]
      exact calls_fr hc
    rw [if_neg hk] at e3
    have hlk : lo+1000000≤lo+1000000 * k:=by omega
    cases hc : C.i f (lo+1000000 * k) st.hp (rds st.env ys++caps) with
    | none => rw [hc] at e3; cases e3
    | some q =>
      obtain ⟨l',h'⟩:=q
      rw [hc] at e3
      simp only [icallK,Option.some.injEq] at e3
      subst e3
      obtain ⟨⟨fn,hf,hf1,hf2⟩,hcall⟩:=hC.1.2.1 f _ _ _ _ _ hc
      have g1 : Gam N w0 ok0 ⟨maskE (lo+1000000 * k) st.env,st.hp⟩ ok ρ a w:={ g with env:=fun k => maskL_weak (g.env k) }
      have hv:=lreps_append h2 e2
      have hrun1:=hcall N w0 ok0 _ ok ρ a w _ g1 (fun k => maskL_low (Nat.le_refl _) [] (st.env k)) (fun j => low_fix hlk (hC.2.1 _ _ _ _ _ hc j) []) hv
      have hf1' : fn.name≠"runtime.NumGoroutine":=by simpa using hf1
      have hf2' : fn.body≠none:=fun e => by rw [e] at hf2; cases hf2
      have hrun : (execOp a.eval o).run P w=.ok (.enter f (xs.map a.eval++cs)) w:=by
        simp [execOp,ho,resolve,Deferred.ofValue,e1,invoke,callFunc,hf,hf1',hf2']
      refine ⟨fun _ _ => trivial,?_⟩
      rw [sem_at hrun (fun d e => by cases e),Oper.uponIn_enter]
      refine ⟨fun h => by simp [FR,Fence.wide] at h,?_⟩
      have : (xs.map a.eval++cs)=(xs.toList.map a.eval++cs.toList).toArray:=by apply Array.ext'; simp
      rw [this]
      refine calls_fr (hrun1.mono fun e w' ⟨v,he',ok',ρ',g',hl⟩ => ?_)
      subst he'
      show next (a.put o.dst v) w'
      rw [hd]
      exact hn _ _ _ _ (g'.put hN hl)
  unfold icallF at he
  split at he
  · simp only [LRep] at h1
    obtain ⟨cs,e1,e2⟩:=h1
    exact key _ _ cs e1 e2 he
  · simp only [LRep, TRep] at h1
    obtain ⟨cs,e1,e2⟩:=h1
    exact key _ _ cs e1 (liftV_lreps e2) he
  · cases he
end
end Go.Proofs.Ytcecojdeljbjoaa.Sx
namespace Go.Proofs.Ytcecojdeljbjoaa.Sx
open Go Go.RowKit
def Sl.le (n : Sl) (N : Rm) : Prop:=n.n≤N.n∧(∀ d,n.may d=true→N.may d)∧∀ d,n.pr.contains d=true→N.K d=true

section
variable {P : Program} {C : Cs} {N : Rm} {w0 : World} {ok0 : Nat→Prop} {ok : Nat→Prop} {a : Act} {w w' : World} {st st' : St} {ρ : Rho}
  {next : Act→World→Prop} {Q : Exit→Act→World→Prop} {o : Oper} {rd : Option Nat} {lo : Nat}

theorem arr_of {α : Type} {xs : Array α} {l : List α} (h : xs.toList=l) : xs=l.toArray:=by rw [← h]

theorem plainTy_ok {t : TypeId} {n : Nat} (h : plainTy P t n=true) : (∃ k,P.underlying t=some k)∧(isAggB P t=false→n=1):=by
  simp only [plainTy,Bool.and_eq_true,Bool.or_eq_true,beq_iff_eq] at h
  refine ⟨Option.isSome_iff_exists.1 h.1,fun e => ?_⟩
  rcases h.2 with h | h
  · rw [e] at h; cases h
  · exact h

theorem slice_or_string {t : TypeId} (h : sliceOrString P t=true) : (∃ e',P.underlying t=some (.slice e'))∨P.underlying t=some .string:=by
  unfold sliceOrString at h
  split at h
  · exact .inl ⟨_,by assumption⟩
  · exact .inr (by assumption)
  · cases h

theorem int_ty {t : TypeId} (h : intTy P t=true) : ∃ k,P.underlying t=some (.int k):=by
  unfold intTy at h
  split at h
  · exact ⟨_,by assumption⟩
  · cases h
theorem cNilBin_ok (g : Gam N w0 ok0 st ok ρ a w) {d : Nat} (hd : o.dst=some d) (hN : N.may d) {op : BinOp} {t u : TypeId} {x y : Operand} {ptr : Bool} (ho : o.op=.binOp op t x y u) (hy : isNilC P t y=some ptr) {i : IOp} (hc : cNilBin P d op t ptr x=some i)
    (he : evOp C lo st i=some st') (hn : Into N w0 ok0 st' next) : i.dst=some d∧o.wpIn (FR rd) 0 P a w next Q:=by
  unfold cNilBin at hc
  split at hc
  · rename_i hx
    obtain rfl:=Option.some.inj hc
    exact ⟨rfl,op_isnil g hd hN (neg:=false) ho hx hy he hn⟩
  · rename_i hx
    obtain rfl:=Option.some.inj hc
    exact ⟨rfl,op_isnil g hd hN (neg:=true) ho hx hy he hn⟩
  · cases hc
theorem cBin_ok (g : Gam N w0 ok0 st ok ρ a w) {d : Nat} (hd : o.dst=some d) (hN : N.may d) {op : BinOp} {t u : TypeId} {x y : Operand} (ho : o.op=.binOp op t x y u) {i : IOp} (hc : cBin P d op t x y u=some i)
    (he : evOp C lo st i=some st') (hn : Into N w0 ok0 st' next) : i.dst=some d∧o.wpIn (FR rd) 0 P a w next Q:=by
  unfold cBin at hc
  split at hc
  · rename_i fs hu
    split at hc
    · cases hc
    · rename_i hg
      have hg' : P.eqGuardType P.depth t=false:=by simpa using hg
      split at hc
      · rename_i ks a' b' hk hx hy
        obtain rfl:=Option.some.inj hc
        exact ⟨rfl,op_eqs g hd hN ho (neg:=false) rfl hx hy hu hk hg' he hn⟩
      · rename_i ks a' b' hk hx hy
        obtain rfl:=Option.some.inj hc
        exact ⟨rfl,op_eqs g hd hN ho (neg:=true) rfl hx hy hu hk hg' he hn⟩
      · cases hc
  · split at hc
    · rename_i hx hy
      obtain rfl:=Option.some.inj hc
      exact ⟨rfl,op_bin g hd hN ho hx hy (by simp) he hn⟩
    · cases hc
  · rename_i hu
    split at hc
    · rename_i hx hy
      obtain rfl:=Option.some.inj hc
      exact ⟨rfl,op_bin g hd hN ho hx hy (fun _ => hu) he hn⟩
    · cases hc
  · split at hc
    · rename_i hx hy
      obtain rfl:=Option.some.inj hc
      exact ⟨rfl,op_bin g hd hN ho hx hy (by simp) he hn⟩
    · cases hc
  · cases hc

theorem cCall_ok (hC : GoodAt P C N lo) (g : Gam N w0 ok0 st ok ρ a w) {d : Nat} (hd : o.dst=some d) (hN : N.may d) {c : Call} {ty : TypeId} (ho : o.op=.call c) {i : IOp} (hc : cCall P d ty c=some i)
    (he : evOp C lo st i=some st') (hn : Into N w0 ok0 st' next) : i.dst=some d∧o.wpIn (FR rd) 0 P a w next Q:=by
  obtain ⟨callee,args,argTypes⟩:=c
  unfold cCall at hc
  simp only at hc
  split at hc
  · rename_i x t h1 h2
    have h1:=arr_of h1
    have h2:=arr_of h2
    subst h1 h2
    split at hc
    · rename_i hu hx
      obtain rfl:=Option.some.inj hc
      exact ⟨rfl,op_len g hd hN ho hx (z:=false) (by simp) (fun _ => ⟨_,hu⟩) he hn⟩
    · rename_i hu hx
      obtain rfl:=Option.some.inj hc
      exact ⟨rfl,op_len g hd hN ho hx (z:=true) (fun _ => hu) (by simp) he hn⟩
    · rename_i hu hx
      obtain rfl:=Option.some.inj hc
      exact ⟨rfl,op_mlen g hd hN ho hx hu he hn⟩
    · cases hc
  · rename_i x t h1 h2
    have h1:=arr_of h1
    have h2:=arr_of h2
    subst h1 h2
    split at hc
    · rename_i hu hx
      obtain rfl:=Option.some.inj hc
      exact ⟨rfl,op_cap g hd hN ho hx hu he hn⟩
    · cases hc
  · rename_i x y t u h1 h2
    have h1:=arr_of h1
    have h2:=arr_of h2
    subst h1 h2
    split at hc
    · rename_i e ht
      split at hc
      · rename_i i z a' b' hi hz hx hy
        split at hc
        · rename_i hh
          split at hc
          · rename_i hs
            obtain rfl:=Option.some.inj hc
            exact ⟨rfl,op_append g hd hN ho hx hy ht (slice_or_string hs) hi hz hh.1 hh.2.1 hh.2.2 he hn⟩
          · split at hc
            · rename_i hs
              obtain rfl:=Option.some.inj hc
              obtain ⟨k,hk⟩:=int_ty hs
              exact ⟨rfl,op_appz g hd hN ho hx hy ht hk hi hz hh.1 hh.2.1 hh.2.2 he hn⟩
            · cases hc
        · cases hc
      · cases hc
    · cases hc
  · rename_i x y t u h1 h2
    have h1:=arr_of h1
    have h2:=arr_of h2
    subst h1 h2
    split at hc
    · rename_i e ht
      split at hc
      · rename_i n a' b' hs hx hy
        obtain rfl:=Option.some.inj hc
        exact ⟨rfl,op_copy g hd hN ho hx hy ht hs he hn⟩
      · cases hc
    · cases hc
  · rename_i h1 h2
    cases hx : cXs P argTypes.toList args.toList with
    | none => rw [hx] at hc; cases hc
    | some ys =>
      rw [hx] at hc
      obtain rfl:=Option.some.inj hc
      exact ⟨rfl,op_mn g hd hN ho hx he hn⟩
  · cases hx : cXs P argTypes.toList args.toList with
    | none => rw [hx] at hc; cases hc
    | some ys =>
      rw [hx] at hc
      obtain rfl:=Option.some.inj hc
      exact ⟨rfl,op_mx g hd hN ho hx he hn⟩
  · split at hc
    · rename_i hx hxs
      obtain rfl:=Option.some.inj hc
      exact ⟨rfl,op_call hC.1 g hd hN ho hx hxs he hn⟩
    · cases hc
  · cases hc

theorem cOp_ok (hC : GoodAt P C N lo) (g : Gam N w0 ok0 st ok ρ a w) {d : Nat} (hd : o.dst=some d) (hN : N.may d) {ty : TypeId} {i : IOp} (hc : cOp P d ty o.op=some i)
    (he : evOp C lo st i=some st') (hn : Into N w0 ok0 st' next) : i.dst=some d∧o.wpIn (FR rd) 0 P a w next Q:=by
  cases ho : o.op with
  | move x =>
    rw [ho] at hc
    simp only [cOp,Option.map_eq_some_iff] at hc
    obtain ⟨y,hy,rfl⟩:=hc
    simp only [evOp,Option.some.injEq] at he
    subst he
    exact ⟨rfl,op_mv g hd hN (.inl ho) hy hn⟩
  | assign x =>
    rw [ho] at hc
    simp only [cOp,Option.map_eq_some_iff] at hc
    obtain ⟨y,hy,rfl⟩:=hc
    simp only [evOp,Option.some.injEq] at he
    subst he
    exact ⟨rfl,op_mv g hd hN (.inr ho) hy hn⟩
  | pick c x y =>
    rw [ho] at hc
    simp only [cOp] at hc
    split at hc
    · rename_i h1 h2 h3
      obtain rfl:=Option.some.inj hc
      exact ⟨rfl,op_pick g hd hN ho h1 h2 h3 he hn⟩
    · cases hc
  | alloc e =>
    rw [ho] at hc
    simp only [cOp] at hc
    split at hc
    · rename_i zs hz
      obtain rfl:=Option.some.inj hc
      exact ⟨rfl,op_alloc g hd hN ho hz he hn⟩
    · split at hc
      · rename_i hz
        obtain rfl:=Option.some.inj hc
        exact ⟨rfl,op_allocM g hd hN ho hz he hn⟩
      · cases hc
  | box e x =>
    rw [ho] at hc
    simp only [cOp] at hc
    split at hc
    · rename_i h1 h2
      obtain rfl:=Option.some.inj hc
      exact ⟨rfl,op_box g hd hN ho h2 he hn⟩
    · cases hc
  | build t parts =>
    rw [ho] at hc
    simp only [cOp] at hc
    split at hc
    · rename_i fs zs hu hz
      split at hc
      · rename_i pl hp
        split at hc
        · rename_i ps hps
          obtain rfl:=Option.some.inj hc
          exact ⟨rfl,op_build g hd hN ho hz (.inl ⟨fs,pl,hu,hp,hps⟩) he hn⟩
        · cases hc
      · cases hc
    · rename_i k e zs hu hz
      split at hc
      · rename_i n hs
        split at hc
        · rename_i ps hps
          obtain rfl:=Option.some.inj hc
          exact ⟨rfl,op_build g hd hN ho hz (.inr ⟨k,e,n,hu,hs,hps⟩) he hn⟩
        · cases hc
      · cases hc
    · cases hc
  | buildSlice t len parts =>
    rw [ho] at hc
    simp only [cOp] at hc
    split at hc
    · rename_i e hu
      split at hc
      · rename_i n rs zs hs hr hz
        split at hc
        · rename_i hh
          obtain rfl:=Option.some.inj hc
          exact ⟨rfl,op_bslice g hd hN ho hr hu hs hz hh.1 hh.2.1 hh.2.2 he hn⟩
        · cases hc
      · cases hc
    · cases hc
  | load t x =>
    rw [ho] at hc
    simp only [cOp] at hc
    split at hc
    · rename_i n y hs hy
      split at hc
      · rename_i hp
        obtain rfl:=Option.some.inj hc
        have h:=plainTy_ok hp
        exact ⟨rfl,op_load g hd hN ho hy hs h.1 h.2 he hn⟩
      · cases hc
    · cases hc
  | nilCheck x =>
    rw [ho] at hc
    simp only [cOp,Option.map_eq_some_iff] at hc
    obtain ⟨y,hy,rfl⟩:=hc
    exact ⟨rfl,op_nchk g hd hN ho hy he hn⟩
  | binOp op t x y u =>
    rw [ho] at hc
    simp only [cOp] at hc
    split at hc
    · rename_i hy
      exact cNilBin_ok g hd hN ho hy hc he hn
    · exact cBin_ok g hd hN ho hc he hn
  | unOp op t x =>
    rw [ho] at hc
    simp only [cOp,Option.map_eq_some_iff] at hc
    obtain ⟨y,hy,rfl⟩:=hc
    exact ⟨rfl,op_un g hd hN ho hy he hn⟩
  | convert src dst x =>
    rw [ho] at hc
    simp only [cOp] at hc
    split at hc
    · rename_i h1 h2 h3
      obtain rfl:=Option.some.inj hc
      exact ⟨rfl,op_conv g hd hN ho h3 h1 h2 he hn⟩
    · rename_i e y h1 h2 h3
      split at hc
      · rename_i h4
        obtain rfl:=Option.some.inj hc
        exact ⟨rfl,op_b2s g hd hN ho h3 h1 h4 h2 he hn⟩
      · cases hc
    · rename_i e y h1 h2 h3
      split at hc
      · rename_i h4
        obtain rfl:=Option.some.inj hc
        exact ⟨rfl,op_s2b g hd hN ho h3 h1 h2 h4 he hn⟩
      · cases hc
    · rename_i e e' y h1 h2 h3
      split at hc
      · rename_i h4
        split at hc
        · rename_i hs
          subst hs
          obtain rfl:=Option.some.inj hc
          exact ⟨rfl,op_cvb g hd hN ho h3 h1 h4 he hn⟩
        · cases hc
      · cases hc
    · cases hc
  | slice t x l h m =>
    rw [ho] at hc
    simp only [cOp] at hc
    split at hc
    · rename_i e hu
      split at hc
      · rename_i n y l' h' m' hs hx hl hh hm
        split at hc
        · cases hc
        · rename_i hne
          obtain rfl:=Option.some.inj hc
          refine ⟨rfl,op_slice g hd hN ho hx hl hh hm hu hs (fun h1 h2 => ?_) he hn⟩
          subst h2
          cases m with
          | none => exact h1 rfl
          | some m => exact hne rfl
      · cases hc
    · rename_i hu
      split at hc
      · rename_i y l' h' hx hl hh
        obtain rfl:=Option.some.inj hc
        exact ⟨rfl,op_ssl g hd hN ho hx hl hh hu he hn⟩
      · cases hc
    · cases hc
  | fieldAddr t x f =>
    rw [ho] at hc
    simp only [cOp] at hc
    split at hc
    · rename_i fs y hu hx
      split at hc
      · rename_i fd hf
        split at hc
        · rename_i n hs
          obtain rfl:=Option.some.inj hc
          exact ⟨rfl,op_faddr g hd hN ho hx hu hf hs he hn⟩
        · cases hc
      · cases hc
    · cases hc
  | field t x f =>
    rw [ho] at hc
    simp only [cOp] at hc
    split at hc
    · rename_i fs y hu hx
      split at hc
      · rename_i fd hf
        split at hc
        · rename_i n hs
          split at hc
          · rename_i hp
            obtain rfl:=Option.some.inj hc
            have h:=plainTy_ok hp
            exact ⟨rfl,op_fld g hd hN ho hx hu hf hs h.1 h.2 he hn⟩
          · cases hc
        · cases hc
      · cases hc
    · cases hc
  | indexAddr t x j =>
    rw [ho] at hc
    simp only [cOp] at hc
    split at hc
    · rename_i e hu
      split at hc
      · rename_i n y j' hs hx hi
        obtain rfl:=Option.some.inj hc
        exact ⟨rfl,op_iaddr g hd hN ho hx hi hu hs he hn⟩
      · cases hc
    · rename_i k e hu
      split at hc
      · rename_i n y j' hs hx hi
        obtain rfl:=Option.some.inj hc
        exact ⟨rfl,op_aaddr g hd hN ho hx hi hu hs he hn⟩
      · cases hc
    · cases hc
  | index t x j =>
    rw [ho] at hc
    simp only [cOp] at hc
    split at hc
    · rename_i k e hu
      split at hc
      · rename_i n y j' hs hx hi
        split at hc
        · rename_i hp
          obtain rfl:=Option.some.inj hc
          have h:=plainTy_ok hp
          exact ⟨rfl,op_ixa g hd hN ho hx hi hu hs h.1 h.2 he hn⟩
        · cases hc
      · cases hc
    · rename_i hu
      split at hc
      · rename_i hx hi
        obtain rfl:=Option.some.inj hc
        exact ⟨rfl,op_ixs g hd hN ho hx hi hu he hn⟩
      · cases hc
    · cases hc
  | extract x j =>
    rw [ho] at hc
    simp only [cOp,Option.map_eq_some_iff] at hc
    obtain ⟨y,hy,rfl⟩:=hc
    exact ⟨rfl,op_ext g hd hN ho hy he hn⟩
  | makeFunc fn first caps =>
    rw [ho] at hc
    cases fn with
    | func f =>
      simp only [cOp] at hc
      split at hc
      · rename_i hf
        obtain rfl:=Array.isEmpty_iff.1 hf
        simp only [Option.map_eq_some_iff] at hc
        obtain ⟨cs,hcs,rfl⟩:=hc
        simp only [evOp,Option.some.injEq] at he
        subst he
        exact ⟨rfl,op_mkfn g hd hN ho hcs hn⟩
      · cases hc
    | _ => simp only [cOp] at hc; cases hc
  | makeSlice t l c =>
    rw [ho] at hc
    simp only [cOp] at hc
    split at hc
    · rename_i e hu
      split at hc
      · rename_i i z x y hi hz hx hy
        split at hc
        · rename_i hh
          obtain rfl:=Option.some.inj hc
          exact ⟨rfl,op_mkslice g hd hN ho hx hy hu hi hz hh.1 hh.2.1 hh.2.2 he hn⟩
        · cases hc
      · cases hc
    · cases hc
  | call c =>
    rw [ho] at hc
    exact cCall_ok hC g hd hN ho hc he hn
  | makeMap t r =>
    rw [ho] at hc
    cases r with
    | none =>
      simp only [cOp] at hc
      split at hc
      · obtain rfl := Option.some.inj hc
        exact ⟨rfl,op_mkmap g hd hN ho he hn⟩
      · cases hc
    | some r => simp only [cOp] at hc; cases hc
  | lookup t x j cok =>
    rw [ho] at hc
    simp only [cOp] at hc
    split at hc
    · rename_i k e ht
      split at hc
      · rename_i ks zs y j' hk hz hx hj
        split at hc
        · rename_i hp
          simp only [Bool.and_eq_true] at hp
          obtain rfl:=Option.some.inj hc
          exact ⟨rfl,op_mget g hd hN ho hx hj ht hk hz hp.1 hp.2 he hn⟩
        · cases hc
      · cases hc
    · cases hc
  | _ => rw [ho] at hc; simp only [cOp] at hc; cases hc

theorem cOp_call {P : Program} {d d' : Nat} {ty : TypeId} {op : Op} {f : X} {args : List X} (hc : cOp P d ty op=some (.call d' f args)) :
    d'=d∧∃ x xs ts us t1,op=.call { callee:=.value x,args:=xs,argTypes:=ts }∧cX P t1 x=some f∧cXs P us xs.toList=some args:=by
  by_cases hcall : ∃ c,op=.call c
  · obtain ⟨c, rfl⟩ := hcall
    obtain ⟨callee,xs,ts⟩:=c
    simp only [cOp] at hc
    unfold cCall at hc
    repeat' split at hc
    all_goals first
      | (cases hc; done)
      | (simp only [Option.map_eq_some_iff] at hc; obtain ⟨y,_,h⟩:=hc; cases h; done)
      | skip
    rename_i h1 _ _ _ _ hx hxs
    simp only [Option.some.injEq,IOp.call.injEq] at hc
    obtain ⟨rfl,rfl,rfl⟩:=hc
    simp only at h1
    subst h1
    exact ⟨rfl,_,_,_,_,_,rfl,hx,hxs⟩
  · unfold cOp at hc
    split at hc
    all_goals first
      | (exact absurd ⟨_,rfl⟩ hcall)
      | (cases hc; done)
      | (simp only [Option.map_eq_some_iff] at hc; obtain ⟨y,_,h⟩:=hc; cases h; done)
      | skip
    all_goals repeat' split at hc
    all_goals first
      | (cases hc; done)
      | (simp only [Option.map_eq_some_iff] at hc; obtain ⟨y,_,h⟩:=hc; cases h; done)
      | skip
    all_goals first
      | (unfold cNilBin at hc; repeat' split at hc)<;>(cases hc; done)
      | (unfold cBin at hc; repeat' split at hc)<;>(cases hc; done)
theorem opd_ok (hC : GoodAt P C N lo) (g : Gam N w0 ok0 st ok ρ a w) {n : Sl} (hnN : n.le N) {i : IOp} (hc : cOpd P n o=some i)
    (he : evOp C lo st i=some st') (hn : Into N w0 ok0 st' next) : o.wpIn (FR rd) 0 P a w next Q:=by
  unfold cOpd at hc
  split at hc
  · rename_i d hd
    split at hc
    · rename_i hlt
      simp only [Option.map_eq_some_iff] at hc
      obtain ⟨i0,hc,rfl⟩:=hc
      by_cases hin : ∃ a f args e,i0=.call a f args∧n.io.find? (fun e => e % 1000000 == d)=some e
      · obtain ⟨a', f, args, e, rfl, hio⟩ := hin
        simp only [toIn,hio] at he
        obtain ⟨rfl,x,xs,ts,us,t1,ho,hx,hxs⟩:=cOp_call hc
        exact op_icall hC g hd (hnN.2.1 _ hlt) ho hx hxs he hn
      · have e : toIn n.io d i0=i0:=by
          cases i0 with
          | call a f args =>
            cases hf : n.io.find? (fun e => e % 1000000 == d) with
            | none => simp only [toIn,hf]
            | some e => exact absurd ⟨a,f,args,e,rfl,hf⟩ hin
          | _ => rfl
        rw [e] at he
        exact (cOp_ok hC g hd (hnN.2.1 _ hlt) hc he hn).2
    · cases hc
  · rename_i hd
    split at hc
    · rename_i t x y ho
      split at hc
      · rename_i m p v hs hp hv
        split at hc
        · obtain rfl := Option.some.inj hc
          exact op_sst g hd ho hp hv hs he hn
        · obtain rfl := Option.some.inj hc
          exact op_storeQ g hd ho hp hv hs he hn
      · cases hc
    · rename_i t x y z ho
      split at hc
      · rename_i k e ht
        split at hc
        · rename_i ks n x' y' z' hk hs hx hy hz
          split at hc
          · rename_i hp
            obtain rfl:=Option.some.inj hc
            exact op_mupd g hd ho hx hy hz ht hk hp he hn
          · cases hc
        · cases hc
      · cases hc
    · rename_i c ho
      obtain ⟨callee,args,argTypes⟩:=c
      unfold cDel at hc
      simp only at hc
      split at hc
      · rename_i x y t u h1 h2
        have h1:=arr_of h1
        have h2:=arr_of h2
        subst h1 h2
        split at hc
        · rename_i k e ht
          split at hc
          · rename_i ks a' b' hk hx hy
            obtain rfl:=Option.some.inj hc
            exact op_mdel g hd ho hx hy ht hk he hn
          · cases hc
        · cases hc
      · cases hc
    · cases hc
end

/-! ### where an operation's value goes -/
theorem cBin_dst {P : Program} {d : Nat} {op : BinOp} {t u : TypeId} {x y : Operand} {i : IOp} (hc : cBin P d op t x y u=some i) : i.dst=some d:=by
  unfold cBin at hc
  repeat' split at hc
  all_goals first | (cases hc; done) | (obtain rfl:=Option.some.inj hc; rfl)
theorem cNilBin_dst {P : Program} {d : Nat} {op : BinOp} {t : TypeId} {x : Operand} {ptr : Bool} {i : IOp} (hc : cNilBin P d op t ptr x=some i) : i.dst=some d:=by
  unfold cNilBin at hc
  repeat' split at hc
  all_goals first | (cases hc; done) | (obtain rfl:=Option.some.inj hc; rfl)
theorem cCall_dst {P : Program} {d : Nat} {ty : TypeId} {c : Call} {i : IOp} (hc : cCall P d ty c=some i) : i.dst=some d:=by
  unfold cCall at hc
  repeat' split at hc
  all_goals first | (cases hc; done) | (obtain rfl:=Option.some.inj hc; rfl) | (simp only [Option.map_eq_some_iff] at hc; obtain ⟨y,hy,rfl⟩:=hc; rfl)
theorem cOp_dst {P : Program} {d : Nat} {ty : TypeId} {op : Op} {i : IOp} (hc : cOp P d ty op=some i) : i.dst=some d:=by
  unfold cOp at hc
  split at hc
  case h_10 =>
    split at hc
    · exact cNilBin_dst hc
    · exact cBin_dst hc
  case h_21 => exact cCall_dst hc
  all_goals
    repeat' split at hc
    all_goals first | (cases hc; done) | (obtain rfl:=Option.some.inj hc; rfl) | (simp only [Option.map_eq_some_iff] at hc; obtain ⟨y,hy,rfl⟩:=hc; rfl)
theorem cOpd_dst {P : Program} {n : Sl} {o : Oper} {i : IOp} (hc : cOpd P n o=some i) : i.dst=o.dst:=by
  unfold cOpd at hc
  split at hc
  · rename_i d hd
    rw [hd]
    split at hc
    · simp only [Option.map_eq_some_iff] at hc
      obtain ⟨i0,hc,rfl⟩:=hc
      rw [← cOp_dst hc]
      cases i0 with
      | call a f args => simp only [toIn]; split<;>rfl
      | _ => rfl
    · cases hc
  · rename_i hd
    rw [hd]
    unfold cDel at hc
    repeat' split at hc
    all_goals first | (cases hc; done) | (obtain rfl:=Option.some.inj hc; rfl)
theorem cOpd_lt {P : Program} {n : Sl} {o : Oper} {i : IOp} {d : Nat} (hc : cOpd P n o=some i) (hd : o.dst=some d) : n.may d=true:=by
  unfold cOpd at hc
  rw [hd] at hc
  simp only at hc
  split at hc
  · assumption
  · cases hc
end Go.Proofs.Ytcecojdeljbjoaa.Sx
namespace Go.Proofs.Ytcecojdeljbjoaa.Sx
open Go Go.RowKit

section
variable {P : Program} {C : Cs} {N : Rm} {w0 : World} {ok0 : Nat→Prop} {ok : Nat→Prop} {a : Act} {w w' : World} {st st' : St} {ρ : Rho}
  {next : Act→World→Prop} {Q : Exit→Act→World→Prop} {o : Oper} {rd : Option Nat} {lo : Nat} {ops : Array Oper} {n : Sl}

theorem tmp_of (g : Gam N w0 ok0 st ok ρ a w) {d : Nat} (hd : d < N.n) : ∃ v,a.tmps[d]?=some v∧LRep w ok ρ st.hp (st.env d) v:=by
  have hlt : d < a.tmps.size:=by rw [g.size]; exact hd
  refine ⟨a.tmps[d],by simp [hlt],?_⟩
  have h:=g.env d
  rwa [show a.tmps.getD d undef=a.tmps[d] by simp [Array.getD_eq_getD_getElem?,hlt]] at h

theorem skip_ok (g : Gam N w0 ok0 st ok ρ a w) {d : Option Nat} (hd : ∀ k,d=some k→N.may k) (he : skipK st d=some st') (hn : Into N w0 ok0 st' next) : next (a.put d undef) w:=by
  cases d with
  | none =>
    obtain rfl:=Option.some.inj he
    exact hn _ _ _ _ g
  | some k =>
    obtain rfl:=Option.some.inj he
    exact hn _ _ _ _ (g.put (hd k rfl) (by simp only [LRep]; exact ⟨#[],rfl,by simp only [LReps]⟩))

theorem oper_ok (hC : GoodAt P C N lo) (g : Gam N w0 ok0 st ok ρ a w) (hnN : n.le N) (he : evOper C lo st (cOper P n ops o)=some st') (hn : Into N w0 ok0 st' next) :
    if Region.wanted o (yielded ops a.tmps) then o.wpIn (FR rd) 0 P a w next Q else (∀ f,o.about P w a.eval=some f→(FR rd).fn f)∧next (a.put o.dst undef) w:=by
  unfold cOper at he
  split at he
  · rename_i i gd hc hg
    unfold cGuard at hg
    split at hg
    · rename_i hog
      obtain rfl:=Option.some.inj hg
      simp only [Region.wanted,hog,if_true]
      exact opd_ok hC g hnN hc he hn
    · rename_i j b hog
      split at hg
      · rename_i d hd
        obtain rfl:=Option.some.inj hg
        have hdn : d < n.n∧∃ p,ops[j]?=some p∧p.dst=some d:=by
          unfold dstOf at hd
          split at hd
          · rename_i p hp
            split at hd
            · rename_i d' hpd
              split at hd
              · rename_i hlt
                obtain rfl:=Option.some.inj hd
                exact ⟨hlt,p,hp,hpd⟩
              · cases hd
            · cases hd
          · cases hd
        obtain ⟨hlt,p,hp,hpd⟩:=hdn
        obtain ⟨v,hv,hr⟩:=tmp_of g (Nat.lt_of_lt_of_le hlt hnN.1)
        have hy : yielded ops a.tmps j=(match v with | .bool b => some b | _ => none):=by
          simp only [yielded,hp,Option.bind_some,hpd,hv]
          cases v<;>rfl
        have hskip : skipK st i.dst=some st'→next (a.put o.dst undef) w:=fun h => by
          rw [cOpd_dst hc] at h
          exact skip_ok g (fun k hk => hnN.2.1 _ (cOpd_lt hc hk)) h hn
        simp only [evOper] at he
        unfold guardK at he
        split at he
        · rename_i b' hb
          rw [hb] at hr
          simp only [LRep,TRep] at hr
          subst hr
          simp only at hy
          split at he
          · rename_i e
            subst e
            simp only [Region.wanted,hog,hy,BEq.rfl,if_true]
            exact opd_ok hC g hnN hc he hn
          · rename_i e
            have : Region.wanted o (yielded ops a.tmps)=false:=by
              simp only [Region.wanted,hog,hy]
              simpa using e
            simp only [this]
            exact ⟨fun _ _ => trivial,hskip he⟩
        · rename_i hb
          rw [hb] at hr
          simp only [LRep] at hr
          obtain ⟨vs,rfl,_⟩:=hr
          simp only at hy
          have : Region.wanted o (yielded ops a.tmps)=false:=by
            simp only [Region.wanted,hog,hy]
            rfl
          simp only [this]
          exact ⟨fun _ _ => trivial,hskip he⟩
        · cases he
      · cases hg
  · cases he

theorem cOpers_get : ∀ {os : List Oper} (k : Nat),(cOpers P n ops os)[k]?=(os[k]?).map (cOper P n ops)
  | [],k => by simp [cOpers]
  | o :: os,0 => by simp [cOpers]
  | o :: os,k+1 => by simp [cOpers,cOpers_get]

theorem wpOps_ok (hC : GoodAt P C N lo) (hnN : n.le N) : ∀ {s : List Nat} {st : St} {ok : Nat→Prop} {ρ : Rho} {a : Act} {w : World},Gam N w0 ok0 st ok ρ a w→evIdx C lo (cOpers P n ops ops.toList) s st=some st'→Into N w0 ok0 st' (Q .normal)→wpOpsIn (FR rd) 0 P ops Q s a w
  | [], st, ok, ρ, a, w, g, he, hn => by
    obtain rfl:=Option.some.inj he
    exact hn _ _ _ _ g
  | i :: s, st, ok, ρ, a, w, g, he, hn => by
    simp only [evIdx,cOpers_get,Array.getElem?_toList] at he
    simp only [wpOpsIn]
    cases ho : ops[i]? with
    | none =>
      rw [ho] at he
      simp only [Option.map_none] at he
      exact wpOps_ok hC hnN g he hn
    | some o =>
      rw [ho] at he
      simp only [Option.map_some] at he
      cases h1 : evOper C lo st (cOper P n ops o) with
      | none => rw [h1] at he; cases he
      | some st1 =>
        rw [h1] at he
        exact oper_ok (next:=wpOpsIn (FR rd) 0 P ops Q s) hC g hnN h1 fun ok ρ a w g' => wpOps_ok hC hnN g' he hn

theorem evOps_idx (ios : List IOper) : ∀ (r : List IOper) (k : Nat) (st : St),(∀ j,ios[k+j]?=r[j]?)→evOps C lo r (some st)=evIdx C lo ios (List.range' k r.length) st
  | [],k,st,_ => by simp [evOps,evIdx]
  | o :: r, k, st, h => by
    have h0 : ios[k]?=some o:=by simpa using h 0
    simp only [evOps,List.length_cons,List.range'_succ,evIdx,h0]
    cases h1 : evOper C lo st o with
    | none => cases r<;>rfl
    | some st1 => exact evOps_idx ios r (k+1) st1 fun j => by have:=h (j+1); simpa [Nat.add_assoc,Nat.add_comm 1 j] using this
theorem cOpers_length : ∀ {os : List Oper},(cOpers P n ops os).length=os.length
  | [] => rfl
  | o :: os => by simp [cOpers,cOpers_length]
end
end Go.Proofs.Ytcecojdeljbjoaa.Sx
namespace Go.Proofs.Ytcecojdeljbjoaa.Sx
open Go Go.RowKit

def patchH (h' h1 : Hp) (wr : List Nat) : Hp:=fun i => if i∈wr then h1 i else h' i
def patch (st' st1 : St) (d : Option Nat) (wr : List Nat) : St:={ env:=fun i => if d=some i then st1.env i else st'.env i,hp:=patchH st'.hp st1.hp wr }

theorem St.ext' {a b : St} (h1 : ∀ i,a.env i=b.env i) (h2 : ∀ i,a.hp i=b.hp i) : a=b:=by
  obtain ⟨e,h⟩:=a
  obtain ⟨e',h'⟩:=b
  have : e=e':=funext h1
  have : h=h':=funext h2
  subst_vars
  rfl

section
variable {C : Cs} {lo : Nat} {st st' st1 : St}

theorem rd_eq {e e' : Nat→LV} {x : X} (h : ∀ i∈x.rs,e' i=e i) : x.rd e'=x.rd e:=by
  cases x with
  | t i => exact h i (by simp [X.rs])
  | c l => rfl
  | fn f => rfl
theorem rds_eq {e e' : Nat→LV} : ∀ {xs : List X},(∀ i∈xrs xs,e' i=e i)→rds e' xs=rds e xs
  | [],_ => rfl
  | x :: xs, h => by
    simp only [rds]
    rw [rd_eq fun i hi => h i (by simp [xrs,hi]),rds_eq fun i hi => h i (by simp [xrs,hi])]
theorem buildCells_eq {e e' : Nat→LV} : ∀ {ps : List (Nat × Nat × X)} {cs : List LV},(∀ i∈prs ps,e' i=e i)→buildCells e' cs ps=buildCells e cs ps
  | [],_,_ => rfl
  | (off, n, x) :: ps, cs, h => by
    simp only [buildCells]
    rw [rd_eq fun i hi => h i (by simp [prs,hi])]
    split
    · exact buildCells_eq fun i hi => h i (by simp [prs,hi])
    · rfl
theorem bndX_eq {e e' : Nat→LV} {k : Nat} {x : Option X} {m : Option Nat} (h : ∀ i∈oxrs x,e' i=e i) : bndX e' k x m=bndX e k x m:=by
  cases x with
  | none => cases m<;>rfl
  | some x => cases m with
    | none => rfl
    | some m => simp only [bndX]; rw [rd_eq fun i hi => h i (by simpa [oxrs] using hi)]

/-! ### trees of what lies in memory -/
theorem solidS_eq {h h' : Hp} {off len id : Nat} {t : TV} {is : List Nat} (he : solidS off len id (h id)=some (t,is)) (hh : ∀ i∈is,h' i=h i) : solidS off len id (h' id)=some (t,is):=by
  have hm : id∈is:=by
    unfold solidS at he
    split at he
    · simp only [Option.some.injEq, Prod.mk.injEq] at he
      rw [← he.2]; simp
    · cases he
  rw [hh id hm]; exact he
theorem solidCell_eq {h h' : Hp} {l : LV} {t : TV} {is : List Nat} (he : solidCell h l=some (t,is)) (hh : ∀ i∈is,h' i=h i) : solidCell h' l=some (t,is):=by
  unfold solidCell at he ⊢
  split at he
  case h_8 => exact solidS_eq he hh
  all_goals first | exact he | (cases he; done)
theorem consS_some {x : Option (TV × List Nat)} {y : Option (List TV × List Nat)} {r : List TV × List Nat} (h : consS x y=some r) : ∃ t i ts is,x=some (t,i)∧y=some (ts,is)∧r=(t :: ts,i++is):=by
  unfold consS at h
  split at h
  · exact ⟨_,_,_,_,rfl,rfl,(Option.some.inj h).symm⟩
  · cases h
theorem solidCells_eq {h h' : Hp} : ∀ {ls : List LV} {ts : List TV} {is : List Nat},solidCells h ls=some (ts,is)→(∀ i∈is,h' i=h i)→solidCells h' ls=some (ts,is)
  | [],ts,is,he,_ => he
  | l :: ls, ts, is, he, hh => by
    simp only [solidCells] at he ⊢
    obtain ⟨t,i1,ts',i2,h1,h2,h3⟩:=consS_some he
    obtain ⟨rfl,rfl⟩:=Prod.mk.inj h3
    rw [solidCell_eq h1 fun i hi => hh i (by simp [hi]),solidCells_eq h2 fun i hi => hh i (by simp [hi])]
    rfl
theorem solidP_eq {h h' : Hp} {id off : Nat} {t : TV} {is : List Nat} (he : solidP h id off (h id)=some (t,is)) (hh : ∀ i∈is,h' i=h i) : solidP h' id off (h' id)=some (t,is):=by
  unfold solidP at he
  split at he
  · rename_i f cs ho
    unfold pcS at he
    split at he
    · rename_i ts is' h1
      simp only [Option.some.injEq,Prod.mk.injEq] at he
      obtain ⟨rfl,rfl⟩:=he
      rw [hh id (by simp),ho]
      simp only [solidP]
      rw [solidCells_eq h1 fun i hi => hh i (by simp [hi])]
      rfl
    · cases he
  · cases he
theorem solidCap_eq {h h' : Hp} {l : LV} {t : TV} {is : List Nat} (he : solidCap h l=some (t,is)) (hh : ∀ i∈is,h' i=h i) : solidCap h' l=some (t,is):=by
  unfold solidCap at he ⊢
  split at he
  · exact solidP_eq he hh
  · exact solidCell_eq he hh
theorem solidCaps_eq {h h' : Hp} : ∀ {ls : List LV} {ts : List TV} {is : List Nat},solidCaps h ls=some (ts,is)→(∀ i∈is,h' i=h i)→solidCaps h' ls=some (ts,is)
  | [],ts,is,he,_ => he
  | l :: ls, ts, is, he, hh => by
    simp only [solidCaps] at he ⊢
    obtain ⟨t,i1,ts',i2,h1,h2,h3⟩:=consS_some he
    obtain ⟨rfl,rfl⟩:=Prod.mk.inj h3
    rw [solidCap_eq h1 fun i hi => hh i (by simp [hi]),solidCaps_eq h2 fun i hi => hh i (by simp [hi])]
    rfl
theorem solidArg_eq {h h' : Hp} {l : LV} {t : TV} {is : List Nat} (he : solidArg h l=some (t,is)) (hh : ∀ i∈is,h' i=h i) : solidArg h' l=some (t,is):=by
  unfold solidArg at he ⊢
  split at he
  · unfold aggS at he
    split at he
    · rename_i ts is' h1
      simp only [Option.some.injEq,Prod.mk.injEq] at he
      obtain ⟨rfl,rfl⟩:=he
      simp only [solidCells_eq h1 hh]
      rfl
    · cases he
  · exact solidP_eq he hh
  · unfold fnS at he
    split at he
    · rename_i ts is' h1
      simp only [Option.some.injEq,Prod.mk.injEq] at he
      obtain ⟨rfl,rfl⟩:=he
      simp only [solidCaps_eq h1 hh]
      rfl
    · cases he
  · exact he
  · exact solidCell_eq he hh
theorem solidArgs_eq {h h' : Hp} : ∀ {ls : List LV} {ts : List TV} {is : List Nat},solidArgs h ls=some (ts,is)→(∀ i∈is,h' i=h i)→solidArgs h' ls=some (ts,is)
  | [],ts,is,he,_ => he
  | l :: ls, ts, is, he, hh => by
    simp only [solidArgs] at he ⊢
    obtain ⟨t,i1,ts',i2,h1,h2,h3⟩:=consS_some he
    obtain ⟨rfl,rfl⟩:=Prod.mk.inj h3
    rw [solidArg_eq h1 fun i hi => hh i (by simp [hi]),solidArgs_eq h2 fun i hi => hh i (by simp [hi])]
    rfl
theorem solidRows_eq {h h' : Hp} {e e' : Nat→LV} {sz : Nat} : ∀ {xs : List X} {rs : List (List TV)} {is : List Nat},solidRows h e sz xs=some (rs,is)→(∀ i∈xrs xs,e' i=e i)→(∀ i∈is,h' i=h i)→solidRows h' e' sz xs=some (rs,is)
  | [],rs,is,he,_,_ => he
  | x :: xs, rs, is, he, hx, hh => by
    simp only [solidRows] at he ⊢
    unfold consR at he
    split at he
    · rename_i r i1 rs' i2 h1 h2
      split at he
      · rename_i hsz
        simp only [Option.some.injEq,Prod.mk.injEq] at he
        obtain ⟨rfl,rfl⟩:=he
        rw [rd_eq fun i hi => hx i (by simp [xrs,hi]),solidCells_eq h1 fun i hi => hh i (by simp [hi]),solidRows_eq h2 (fun i hi => hx i (by simp [xrs,hi])) fun i hi => hh i (by simp [hi])]
        simp only [consR,hsz,if_true]
      · cases he
    · cases he

theorem frz_at {h h' : Hp} {j : Nat} (e : h' j=h j) (i : Nat) : upd h' i (frz (h' i)) j=upd h i (frz (h i)) j:=by
  by_cases hj : j=i
  · subst hj; rw [upd_same,upd_same,e]
  · rw [upd_ne _ _ hj,upd_ne _ _ hj,e]
theorem freezeAll_at : ∀ (is : List Nat) {h h' : Hp} {j : Nat},h' j=h j→Sx.freezeAll h' is j=Sx.freezeAll h is j
  | [],_,_,_,e => e
  | i :: is,h,h',j,e => freezeAll_at is (frz_at e i)
theorem freezeAll_out : ∀ (is : List Nat) {h : Hp} {j : Nat},j∉is→Sx.freezeAll h is j=h j
  | [],_,_,_ => rfl
  | i :: is, h, j, hj => by
    show Sx.freezeAll (upd h i (frz (h i))) is j=h j
    rw [freezeAll_out is (fun hm => hj (by simp [hm])),upd_ne _ _ (fun e => hj (by simp [e]))]

/-! ### single changes -/
theorem set_loc {d : Nat} {l : LV} {wr : List Nat} (hw : ∀ i∈wr,st'.hp i=st.hp i) : st'.set d l=patch st' (st.set d l) (some d) wr:=by
  refine St.ext' (fun i => ?_) fun i => ?_
  · simp only [St.set, patch, upd]
    by_cases e : i=d
    · subst e; simp
    · rw [if_neg e,if_neg (by simpa using fun h => e h.symm)]
  · simp only [St.set, patch, patchH]
    split
    · exact hw i (by assumption)
    · rfl
theorem setM_loc {d : Nat} {x x' : Option LV} {wr : List Nat} (h : setM st d x=some st1) (hx : x'=x) (hw : ∀ i∈wr,st'.hp i=st.hp i) : setM st' d x'=some (patch st' st1 (some d) wr):=by
  subst hx
  cases x' with
  | none => cases h
  | some l =>
    obtain rfl:=Option.some.inj h
    exact congrArg some (set_loc hw)
theorem setV_loc {d : Nat} {x x' : Option TV} {wr : List Nat} (h : setV st d x=some st1) (hx : x'=x) (hw : ∀ i∈wr,st'.hp i=st.hp i) : setV st' d x'=some (patch st' st1 (some d) wr):=by
  subst hx
  cases x' with
  | none => cases h
  | some l =>
    obtain rfl:=Option.some.inj h
    exact congrArg some (set_loc hw)
theorem mkO_loc {d k : Nat} {o : Ob} {l : LV} {h h' : Hp} {wr0 : List Nat} (he : mkO d k o l ⟨st.env,h⟩=some st1) (hk : h' k=h k) (h1 : ∀ i∈wr0,h' i=h i) (h2 : ∀ i,i∉wr0→h' i=st'.hp i) :
    mkO d k o l ⟨st'.env,h'⟩=some (patch st' st1 (some d) (k :: wr0)):=by
  unfold mkO mkK at he ⊢
  dsimp only at he ⊢
  rw [hk]
  split at he
  · rename_i hn
    obtain rfl:=Option.some.inj he
    refine congrArg some (St.ext' (fun i => ?_) fun i => ?_)
    · show upd st'.env d l i = if some d = some i then upd st.env d l i else st'.env i
      simp only [upd]
      by_cases e : i=d
      · subst e; simp
      · rw [if_neg e,if_neg (by simpa using fun h => e h.symm)]
    · show upd h' k (some o) i = if i ∈ k :: wr0 then upd h k (some o) i else st'.hp i
      by_cases e : i=k
      · subst e; rw [upd_same,if_pos (by simp),upd_same]
      · rw [upd_ne _ _ e]
        by_cases hm : i∈wr0
        · rw [if_pos (by simp [hm]),upd_ne _ _ e]; exact h1 i hm
        · rw [if_neg (by simp [e,hm])]; exact h2 i hm
  · cases he

/-! ### results -/
def LocT {β : Type} (F : St→Option (β × St)) (wr : List Nat) : Prop:=∀ (st : St) (r : β) (st1 : St),F st=some (r,st1)→st1.env=st.env∧∀ st' : St,(∀ i∈wr,st'.hp i=st.hp i)→F st'=some (r,{ env:=st'.env,hp:=patchH st'.hp st1.hp wr })
theorem LocT.out {β : Type} {F : St→Option (β × St)} {wr : List Nat} (h : LocT F wr) {st st1 : St} {r : β} (he : F st=some (r,st1)) {i : Nat} (hi : i∉wr) : st1.hp i=st.hp i:=by
  have:=(h st r st1 he).2 st fun _ _ => rfl
  rw [he] at this
  have e:=congrArg St.hp (Prod.mk.inj (Option.some.inj this)).2
  rw [e]
  simp [patchH,hi]
theorem LocT.then {β γ δ : Type} {F : St→Option (β × St)} {G : St→Option (γ × St)} {n1 n2 : List Nat} (hF : LocT F n1) (hG : LocT G n2) (k : β→γ→δ) :
    LocT (fun st => match F st with | some (x,st1) => (match G st1 with | some (y,st2) => some (k x y,st2) | none => none) | none => none) (n1++n2):=by
  intro st r st2 h
  cases h1 : F st with
  | none => simp only [h1] at h; cases h
  | some q =>
    obtain ⟨x,sta⟩:=q
    simp only [h1] at h
    cases h2 : G sta with
    | none => rw [h2] at h; cases h
    | some q =>
      obtain ⟨y,stb⟩:=q
      rw [h2] at h
      simp only [Option.some.injEq,Prod.mk.injEq] at h
      obtain ⟨rfl,rfl⟩:=h
      obtain ⟨e1,f1⟩:=hF st x sta h1
      obtain ⟨e2,f2⟩:=hG sta y stb h2
      refine ⟨e2.trans e1,fun st' hw => ?_⟩
      have g1:=f1 st' fun i hi => hw i (by simp [hi])
      have g2:=f2 ⟨st'.env,patchH st'.hp sta.hp n1⟩ fun i hi => by
        simp only [patchH]
        split
        · rfl
        · rename_i hn
          rw [hF.out h1 hn]
          exact hw i (by simp [hi])
      simp only [g1,g2]
      refine congrArg some (Prod.ext rfl (St.ext' (fun _ => rfl) fun i => ?_))
      simp only [patchH,List.mem_append]
      by_cases i2 : i∈n2
      · simp [i2]
      · by_cases i1 : i ∈ n1
        · simp [i1,i2,hG.out h2 i2]
        · simp [i1,i2]
theorem LocT.pure {β : Type} (r : β) : LocT (fun st => some (r,st)) []:=fun st r' st1 h => by
  simp only [Option.some.injEq,Prod.mk.injEq] at h
  obtain ⟨rfl,rfl⟩:=h
  exact ⟨rfl,fun st' _ => congrArg some (Prod.ext rfl (St.ext' (fun _ => rfl) fun i => by simp [patchH]))⟩
theorem LocT.map {β γ : Type} {F : St→Option (β × St)} {n : List Nat} (hF : LocT F n) (k : β→γ) : LocT (fun st => match F st with | some (x,st1) => some (k x,st1) | none => none) n:=by
  have h:=hF.then (LocT.pure ()) fun x _ => k x
  rw [List.append_nil] at h
  exact h
theorem LocT.congr {β : Type} {F G : St→Option (β × St)} {n : List Nat} (hF : LocT F n) (e : ∀ st,G st=F st) : LocT G n:=by
  have : G=F:=funext e
  rw [this]; exact hF

theorem consT_eq (l : LV) (x : Option (List LV × St)) : consT l x=match x with | some (ls,st) => some (l :: ls,st) | none => none:=by cases x<;>rfl

def newO (k : Nat) (o : Ob) (st : St) : Option (Unit × St):=match st.hp k with
  | none => some ((),{ st with hp:=upd st.hp k (some o) })
  | some _ => none
theorem newO_loc (k : Nat) (o : Ob) : LocT (newO k o) [k]:=by
  intro st r st1 h
  unfold newO at h
  split at h
  · rename_i hk
    simp only [Option.some.injEq,Prod.mk.injEq] at h
    obtain ⟨_,rfl⟩:=h
    refine ⟨rfl,fun st' hw => ?_⟩
    have:=hw k (by simp)
    unfold newO
    rw [this,hk]
    refine congrArg some (Prod.ext rfl (St.ext' (fun _ => rfl) fun i => ?_))
    simp only [patchH,List.mem_singleton]
    by_cases e : i=k
    · subst e; simp [upd]
    · simp [upd,e]
  · cases h

theorem thawCells_loc : ∀ (ts : List TV) (k : Nat),LocT (thawCells k ts) (thawNs k ts)
  | [],k => by simpa only [thawCells,thawNs] using LocT.pure []
  | t :: ts, k => by
    have ih:=thawCells_loc ts (k+1)
    by_cases hown : ∃ e sz rows,t=.sl (.own e) sz rows
    · obtain ⟨e, sz, rows, rfl⟩ := hown
      have h:=(newO_loc k (.arr false e sz rows)).then ih fun _ ls => LV.s k 0 rows.length :: ls
      simp only [thawNs]
      refine LocT.congr h fun st => ?_
      simp only [thawCells,thawOne,newO]
      cases st.hp k with
      | none => simp only; cases thawCells (k+1) ts ⟨st.env,upd st.hp k (some (.arr false e sz rows))⟩<;>rfl
      | some o => rfl
    · have hT : ∀ st,thawCells k (t :: ts) st=consT (.v t) (thawCells (k+1) ts st):=fun st => by
        cases t with
        | sl fl sz rows => cases fl with
          | own e => exact absurd ⟨e,sz,rows,rfl⟩ hown
          | shared => rfl
          | tight e => rfl
        | _ => rfl
      have hN : thawNs k (t :: ts)=thawNs (k+1) ts:=by
        cases t with
        | sl fl sz rows => cases fl with
          | own e => exact absurd ⟨e,sz,rows,rfl⟩ hown
          | shared => rfl
          | tight e => rfl
        | _ => rfl
      rw [hN]
      refine LocT.congr (ih.map fun ls => LV.v t :: ls) fun st => ?_
      rw [hT]
      cases thawCells (k+1) ts st<;>rfl

theorem LocT.bind {β γ : Type} {F : St→Option (β × St)} {n : List Nat} (hF : LocT F n) (k : β→Option γ) : LocT (fun st => match F st with | some (x,st1) => (match k x with | some y => some (y,st1) | none => none) | none => none) n:=by
  intro st r st1 h
  cases h1 : F st with
  | none => simp only [h1] at h; cases h
  | some q =>
    obtain ⟨x,sta⟩:=q
    simp only [h1] at h
    cases h2 : k x with
    | none => rw [h2] at h; cases h
    | some y =>
      rw [h2] at h
      simp only [Option.some.injEq,Prod.mk.injEq] at h
      obtain ⟨rfl,rfl⟩:=h
      obtain ⟨e1,f1⟩:=hF st x sta h1
      refine ⟨e1,fun st' hw => ?_⟩
      simp only [f1 st' hw,h2]
theorem LocT.none {β : Type} (n : List Nat) : LocT (fun _ : St => (Option.none : Option (β × St))) n:=fun _ _ _ h => by cases h

theorem thaw1_loc (t : TV) (k : Nat) : LocT (thaw1 k t) (thawN1 k t):=by
  by_cases ha : ∃ cs,t=.agg cs
  · obtain ⟨cs, rfl⟩ := ha
    simp only [thawN1]
    by_cases hl : cs.length≤16
    · refine LocT.congr ((thawCells_loc cs k).map fun ls => LV.agg ls) fun st => ?_
      simp only [thaw1,hl,if_true]
      cases thawCells k cs st<;>rfl
    · refine LocT.congr (LocT.none _) fun st => ?_
      simp only [thaw1,hl,if_false]
  · have hT : ∀ st,thaw1 k t st=oneT (thawCells k [t] st):=fun st => by cases t with
      | agg cs => exact absurd ⟨cs,rfl⟩ ha
      | _ => rfl
    have hN : thawN1 k t=thawNs k [t]:=by cases t with
      | agg cs => exact absurd ⟨cs,rfl⟩ ha
      | _ => rfl
    rw [hN]
    refine LocT.congr ((thawCells_loc [t] k).bind fun ls => match ls with | [l] => some l | _ => Option.none) fun st => ?_
    rw [hT]
    cases thawCells k [t] st with
    | none => rfl
    | some q =>
      obtain ⟨ls,st1⟩:=q
      match ls with
      | [] => rfl
      | [l] => rfl
      | _ :: _ :: _ => rfl

theorem thawVs_loc : ∀ (ts : List TV) (k : Nat),LocT (thawVs k ts) (thawNVs k ts)
  | [],k => by simpa only [thawVs,thawNVs] using LocT.pure []
  | t :: ts, k => by
    simp only [thawNVs]
    refine LocT.congr ((thaw1_loc t k).then (thawVs_loc ts (k+16)) fun l ls => l :: ls) fun st => ?_
    simp only [thawVs]
    cases thaw1 k t st with
    | none => rfl
    | some q => simp only [thawK]; cases thawVs (k+16) ts q.2<;>rfl
theorem thaw_loc (t : TV) (k : Nat) : LocT (thaw k t) (thawN k t):=by
  by_cases ha : ∃ cs,t=.tup cs
  · obtain ⟨cs, rfl⟩ := ha
    simp only [thawN]
    refine LocT.congr ((thawVs_loc cs k).map fun ls => LV.tup ls) fun st => ?_
    simp only [thaw]
    cases thawVs k cs st<;>rfl
  · have hT : ∀ st,thaw k t st=thaw1 k t st:=fun st => by cases t with
      | tup cs => exact absurd ⟨cs,rfl⟩ ha
      | _ => rfl
    have hN : thawN k t=thawN1 k t:=by cases t with
      | tup cs => exact absurd ⟨cs,rfl⟩ ha
      | _ => rfl
    rw [hN]
    exact LocT.congr (thaw1_loc t k) hT
end
end Go.Proofs.Ytcecojdeljbjoaa.Sx
namespace Go.Proofs.Ytcecojdeljbjoaa.Sx
open Go Go.RowKit

section
variable {C : Cs} {lo : Nat} {st st' st1 : St}

theorem loadL_eq {h h' : Hp} {n : Nat} {ag : Bool} {l : LV} (hh : ∀ i∈fpA l,h' i=h i) : loadL h' n ag l=loadL h n ag l:=by
  cases l with
  | p id off => simp only [loadL,hh id (by simp [fpA])]
  | pe id r off => simp only [loadL,hh id (by simp [fpA])]
  | v t => cases t<;>rfl
  | _ => rfl
theorem iaddrL_eq {h h' : Hp} {sz : Nat} {l m : LV} (hh : ∀ i∈fpA l,h' i=h i) : iaddrL h' sz l m=iaddrL h sz l m:=by
  unfold iaddrL
  split
  · rfl
  · rw [hh _ (by simp [fpA])]
  · rfl
theorem sslL_eq {e e' : Nat→LV} {a b : Option X} {l : LV} (h1 : ∀ i∈oxrs a,e' i=e i) (h2 : ∀ i∈oxrs b,e' i=e i) : sslL e' a b l=sslL e a b l:=by
  unfold sslL
  split
  · rw [bndX_eq h2,bndX_eq h1]
  · rfl
theorem sliceL_eq {h h' : Hp} {e e' : Nat→LV} {te : TypeId} {sz : Nat} {a b c : Option X} {l : LV} (h1 : ∀ i∈oxrs a,e' i=e i) (h2 : ∀ i∈oxrs b,e' i=e i) (h3 : ∀ i∈oxrs c,e' i=e i) (hh : ∀ i∈fpA l,h' i=h i) :
    sliceL h' te sz e' a b c l=sliceL h te sz e a b c l:=by
  unfold sliceL
  split
  · simp only [cutV2,bndX_eq h1,bndX_eq h2]
  · simp only [cutV3,bndX_eq h1,bndX_eq h2,bndX_eq (x:=some _) (by simpa [oxrs] using h3)]
  · rw [hh _ (by simp [fpA])]; simp only [bndX_eq h1,bndX_eq h2]
  · rfl
theorem rowsOf_eq {h h' : Hp} {l : LV} (hh : ∀ i∈fpA l,h' i=h i) : rowsOf h' l=rowsOf h l:=by
  cases l with
  | s id off len => simp only [rowsOf,hh id (by simp [fpA])]
  | v t => cases t<;>rfl
  | _ => rfl
theorem rowsB_eq {h h' : Hp} {l : LV} (hh : ∀ i∈fpA l,h' i=h i) : rowsB h' l=rowsB h l:=by
  cases l with
  | s id off len => simp only [rowsB,hh id (by simp [fpA])]
  | v t => cases t<;>rfl
  | _ => rfl

theorem pick_loc {d : Nat} {a b c : LV} {wr : List Nat} (h : pickK st d a b c=some st1) (hw : ∀ i∈wr,st'.hp i=st.hp i) : pickK st' d a b c=some (patch st' st1 (some d) wr):=by
  unfold pickK at h ⊢
  split at h
  · split at h
    · rename_i hc; obtain rfl:=Option.some.inj h; simp only [hc,if_true]; exact congrArg some (set_loc hw)
    · rename_i hc; obtain rfl:=Option.some.inj h; simp only [hc]; exact congrArg some (set_loc hw)
  · cases h

theorem hp_loc {id : Nat} {o : Ob} {h h' : Hp} {wr0 : List Nat} {wr : List Nat} (hid : id∈wr) (hs : ∀ i∈wr0,i∈wr) (h1 : ∀ i∈wr,h' i=h i) (h2 : ∀ i,i∉wr→h' i=st'.hp i) {e e' : Nat→LV} {d : Option Nat} (he : ∀ i,e' i=if d=some i then e i else st'.env i) :
    (⟨e',upd h' id (some o)⟩ : St)=patch st' ⟨e,upd h id (some o)⟩ d wr:=by
  refine St.ext' (fun i => he i) fun i => ?_
  show upd h' id (some o) i=if i∈wr then upd h id (some o) i else st'.hp i
  by_cases ei : i=id
  · subst ei; rw [upd_same,if_pos hid,upd_same]
  · rw [upd_ne _ _ ei, upd_ne _ _ ei]
    by_cases hm : i∈wr
    · rw [if_pos hm]; exact h1 i hm
    · rw [if_neg hm]; exact h2 i hm

theorem store_loc {n : Nat} {xs : List LV} {l : LV} {wr : List Nat} (h : storeL st n xs l=some st1) (hwr : wr=fpW (solidCells st.hp xs) l) (hw : ∀ i∈wr,st'.hp i=st.hp i) :
    storeL st' n xs l=some (patch st' st1 none wr)∧fpW (solidCells st'.hp xs) l=fpW (solidCells st.hp xs) l:=by
  unfold storeL at h ⊢
  split at h
  · rename_i id off
    have hid : id∈wr:=by rw [hwr]; simp [fpW]
    refine ⟨?_,rfl⟩
    simp only [hw id hid]
    unfold storeP at h ⊢
    split at h
    · split at h
      · rename_i hh
        obtain rfl:=Option.some.inj h
        simp only [hh,and_self,if_true]
        exact congrArg some (hp_loc hid (wr0:=[]) (by simp) hw (fun _ _ => rfl) (by simp))
      · cases h
    · cases h
  · rename_i id row off
    have hid : id∈wr:=by rw [hwr]; simp [fpW]
    cases hs : solidCells st.hp xs with
    | none => rw [hs] at h; cases h
    | some q =>
      obtain ⟨ts,is⟩:=q
      have his : ∀ i∈is,i∈wr:=fun i hi => by rw [hwr,hs]; simp [fpW,fpS,hi]
      rw [hs] at h
      rw [solidCells_eq hs fun i hi => hw i (his i hi)]
      refine ⟨?_,rfl⟩
      simp only [hw id hid]
      unfold storeE at h ⊢
      split at h
      · rename_i h1 h2
        simp only [Option.some.injEq,Prod.mk.injEq] at h1
        obtain ⟨rfl,rfl⟩:=h1
        unfold storeE2 at h ⊢
        split at h
        · rename_i r hr
          split at h
          · rename_i hh
            obtain rfl:=Option.some.inj h
            simp only [hh,and_self,not_false_eq_true,if_true]
            exact congrArg some (hp_loc hid his (fun i hi => freezeAll_at _ (hw i hi)) (fun i hi => freezeAll_out _ fun hm => hi (his i hm)) (by simp))
          · cases h
        · cases h
      · cases h
  · cases h

theorem storeQ_loc {n : Nat} {x l : LV} {wr : List Nat} (h : storeQ lo st n x l=some st1) (hwr : wr=fpQ lo st.hp x l) (hw : ∀ i∈wr,st'.hp i=st.hp i) :
    storeQ lo st' n x l=some (patch st' st1 none wr)∧fpQ lo st'.hp x l=fpQ lo st.hp x l:=by
  unfold storeQ at h ⊢
  unfold fpQ at hwr ⊢
  split at h
  · rename_i hlo
    rw [if_pos hlo] at hwr
    simp only [if_pos hlo]
    exact store_loc h hwr hw
  · rename_i hlo
    rw [if_neg hlo] at hwr
    simp only [if_neg hlo]
    unfold storeV at h ⊢
    unfold fpV at hwr ⊢
    split at h
    · rename_i id2 len id off
      simp only at hwr ⊢
      generalize off * 1000000+len=nid at h hwr ⊢
      refine ⟨?_,trivial⟩
      split at h
      · rename_i hn
        rw [if_pos hn]
        rw [hw id2 (by rw [hwr]; simp),hw nid (by rw [hwr]; simp),hw id (by rw [hwr]; simp)]
        unfold putO at h ⊢
        split at h
        · split at h
          · rename_i hh
            obtain rfl:=Option.some.inj h
            simp only [hh,and_self,if_true]
            refine congrArg some (hp_loc (by rw [hwr]; simp) (wr0:=[]) (by simp) (fun i hi => ?_) (fun i hi => ?_) (by simp))
            · unfold upd
              split
              · rfl
              · split
                · rfl
                · exact hw i hi
            · rw [hwr] at hi
              simp only [List.mem_cons,List.not_mem_nil,or_false,not_or] at hi
              rw [upd_ne _ _ hi.2.2,upd_ne _ _ hi.2.1]
          · cases h
        · cases h
      · cases h
    · rename_i hno
      split at hwr
      · rename_i id2 len id off
        exact absurd rfl (hno id2 len id off rfl)
      · exact store_loc h hwr hw
theorem appN_loc {d : Nat} {e : TypeId} {sz : Nat} {new : List (List TV)} (h : appN lo st d e sz new=some st1) (hw : st'.hp (lo+d)=st.hp (lo+d)) : appN lo st' d e sz new=some (patch st' st1 (some d) [lo+d]):=by
  unfold appN at h ⊢
  split at h
  · rename_i hlo
    rw [if_pos hlo]
    exact mkO_loc (st:=st) (wr0:=[]) h hw (by simp) (fun _ _ => rfl)
  · rename_i hlo
    rw [if_neg hlo]
    unfold appV at h ⊢
    split at h
    · exact mkO_loc (st:=st) (wr0:=[]) h hw (by simp) (fun _ _ => rfl)
    · exact mkO_loc (st:=st) (wr0:=[]) h hw (by simp) (fun _ _ => rfl)
theorem app_loc {d : Nat} {e : TypeId} {sz bytes : Nat} {x : LV} {y y' : Option (Nat × List (List TV))} {wr : List Nat} (h : appK lo st d e sz bytes x y=some st1) (hy : y'=y) (hwr : wr=(lo+d) :: fpA x) (hw : ∀ i∈wr,st'.hp i=st.hp i) :
    appK lo st' d e sz bytes x y'=some (patch st' st1 (some d) wr):=by
  subst hy
  unfold appK at h ⊢
  split at h
  · rename_i sz' new
    split at h
    · rename_i hsz
      simp only [hsz,if_true]
      unfold appL at h ⊢
      split at h
      · rename_i fe sz2 rows
        split at h
        · rename_i hsz2
          simp only [hsz2,if_true]
          have hwr' : wr=[lo+d]:=by rw [hwr]; rfl
          subst hwr'
          unfold appT at h ⊢
          split at h
          · split at h
            · rename_i hb
              simp only [hb,if_true]
              exact appN_loc h (hw _ (by simp))
            · cases h
          · split at h
            · rename_i hb
              obtain rfl:=Option.some.inj h
              simp only [hb,if_true]
              exact congrArg some (set_loc hw)
            · rename_i hb
              split at h
              · rename_i hb2
                simp only [hb,if_false,hb2,if_true]
                exact mkO_loc (st:=st) (wr0:=[]) h (hw _ (by simp)) (by simp) (fun _ _ => rfl)
              · cases h
        · cases h
      · rename_i id len
        have hwr' : wr=[lo+d,id]:=by rw [hwr]; rfl
        subst hwr'
        simp only [hw id (by simp)]
        unfold appS at h ⊢
        split at h
        · split at h
          · rename_i hh
            simp only [hh,and_self,if_true]
            refine mkO_loc (st:=st) (wr0:=[id]) h ?_ ?_ ?_
            · simp only [upd]; split
              · rfl
              · exact hw _ (by simp)
            · intro i hi; simp only [List.mem_singleton] at hi; subst hi; rw [upd_same,upd_same]
            · intro i hi; exact upd_ne _ _ (by simpa using hi)
          · cases h
        · unfold appW at h ⊢
          split at h
          · split at h
            · rename_i hh
              rw [if_pos hh]
              refine mkO_loc (st:=st) (wr0:=[id]) h ?_ ?_ ?_
              · simp only [upd]; split
                · rfl
                · exact hw _ (by simp)
              · intro i hi; simp only [List.mem_singleton] at hi; subst hi; rw [upd_same,upd_same]
              · intro i hi; exact upd_ne _ _ (by simpa using hi)
            · cases h
          · cases h
        · cases h
      · cases h
    · cases h
  · cases h

theorem copy_loc {d sz : Nat} {x : LV} {y y' : Option (Nat × List (List TV))} {wr : List Nat} (h : copyK st d sz x y=some st1) (hy : y'=y) (hwr : wr=fpA x) (hw : ∀ i∈wr,st'.hp i=st.hp i) :
    copyK st' d sz x y'=some (patch st' st1 (some d) wr):=by
  subst hy
  unfold copyK at h ⊢
  split at h
  · split at h
    · rename_i hsz
      simp only [hsz,if_true]
      unfold copyL at h ⊢
      split at h
      · rename_i id off len
        have hid : id∈wr:=by rw [hwr]; simp [fpA]
        simp only [hw id hid]
        unfold copyO at h ⊢
        split at h
        · split at h
          · rename_i hh
            obtain rfl:=Option.some.inj h
            simp only [hh,if_true]
            refine congrArg some (hp_loc hid (wr0:=[]) (by simp) hw (fun _ _ => rfl) fun i => ?_)
            simp only [upd]
            by_cases ei : i=d
            · subst ei; simp
            · rw [if_neg ei,if_neg (by simpa using fun h => ei h.symm)]
          · cases h
        · cases h
      · cases h
    · cases h
  · cases h

theorem call_loc {d : Nat} {is : List Nat} {r : Option TV} (h : callR lo d is st r=some st1) (hrd : ∀ i∈is,st'.hp i=st.hp i) (hw : ∀ i∈(fpCall lo d is r).wr,st'.hp i=st.hp i) :
    callR lo d is st' r=some (patch st' st1 (some d) (fpCall lo d is r).wr):=by
  cases r with
  | none => cases h
  | some r =>
    simp only [fpCall] at hw ⊢
    simp only [callR] at h ⊢
    generalize hH : (fun h : Hp => if is.isEmpty || r.flat then h else Sx.freezeAll h is)=H at *
    have hHs : ∀ h : Hp,(if is.isEmpty || r.flat then h else Sx.freezeAll h is)=H h:=fun h => by rw [← hH]
    simp only [hHs] at h ⊢
    have hat : ∀ {h h' : Hp} {j : Nat},h' j=h j→H h' j=H h j:=fun {h h' j} e => by
      rw [← hH]
      simp only
      split
      · exact e
      · exact freezeAll_at is e
    have hout : ∀ {h : Hp} {j : Nat},j∉(if r.flat=true then [] else is)→H h j=h j:=fun {h j} e => by
      rw [← hH]
      simp only
      split
      · rfl
      · rename_i hc
        refine freezeAll_out is fun hm => e ?_
        have : r.flat=false:=by simpa using (by simpa using hc : ¬ (is=[]∨r.flat=true)) ∘ Or.inr
        simp [this,hm]
    cases ht : thaw (lo+(1000+d * 64)) r { env:=st.env,hp:=H st.hp } with
    | none => rw [ht] at h; cases h
    | some q =>
      obtain ⟨l,st2⟩:=q
      rw [ht] at h
      obtain rfl:=Option.some.inj h
      have hloc:=thaw_loc r (lo+(1000+d * 64))
      obtain ⟨e1,f1⟩:=hloc _ _ _ ht
      have g1:=f1 ⟨st'.env,H st'.hp⟩ fun i hi => hat (hw i (by simp [hi]))
      rw [g1]
      simp only [callT]
      refine congrArg some (St.ext' (fun i => ?_) fun i => ?_)
      · show upd st'.env d l i = if some d = some i then upd st2.env d l i else st'.env i
        simp only [upd]
        by_cases ei : i=d
        · subst ei; simp
        · rw [if_neg ei,if_neg (by simpa using fun h => ei h.symm)]
      · show patchH (H st'.hp) st2.hp (thawN (lo + (1000 + d * 64)) r) i = patchH st'.hp st2.hp ((if r.flat = true then [] else is) ++ thawN (lo + (1000 + d * 64)) r) i
        simp only [patchH,List.mem_append]
        by_cases i2 : i∈thawN (lo+(1000+d * 64)) r
        · simp [i2]
        · by_cases i1 : i ∈ (if r.flat = true then [] else is)
          · simp only [i1, i2, or_false, if_true, if_false]
            rw [hloc.out ht i2]
            exact hat (hw i (by simp only [List.mem_append]; exact .inl i1))
          · simp only [i1, i2, or_false, if_false]
            exact hout i1

theorem callA_loc {d : Nat} {f : FuncId} {ls : List LV} (h : callA C lo d f st (solidArgs st.hp ls)=some st1) (hrd : ∀ i∈(fpCallA C lo d f (solidArgs st.hp ls)).rd,st'.hp i=st.hp i)
    (hw : ∀ i∈(fpCallA C lo d f (solidArgs st.hp ls)).wr,st'.hp i=st.hp i) :
    callA C lo d f st' (solidArgs st'.hp ls)=some (patch st' st1 (some d) (fpCallA C lo d f (solidArgs st.hp ls)).wr)∧solidArgs st'.hp ls=solidArgs st.hp ls:=by
  cases hs : solidArgs st.hp ls with
  | none => rw [hs] at h; cases h
  | some q =>
    obtain ⟨ts,is⟩:=q
    rw [hs] at h hrd hw
    simp only [callA,fpCallA] at h hrd hw ⊢
    have his : ∀ i∈is,st'.hp i=st.hp i:=by
      cases hr : C.t f ts with
      | none => rw [hr] at h; cases h
      | some r => rw [hr] at hrd; exact hrd
    rw [solidArgs_eq hs his]
    exact ⟨call_loc h his hw,rfl⟩

theorem callF_loc {d : Nat} {args : List LV} {l : LV} (h : callF C lo d args st l=some st1) (hrd : ∀ i∈(fpCallF C lo d args st.hp l).rd,st'.hp i=st.hp i) (hw : ∀ i∈(fpCallF C lo d args st.hp l).wr,st'.hp i=st.hp i) :
    callF C lo d args st' l=some (patch st' st1 (some d) (fpCallF C lo d args st.hp l).wr)∧fpCallF C lo d args st'.hp l=fpCallF C lo d args st.hp l:=by
  unfold callF at h ⊢
  split at h
  · simp only [fpCallF] at hrd hw ⊢
    have k:=callA_loc h hrd hw
    exact ⟨k.1,by rw [k.2]⟩
  · simp only [fpCallF] at hrd hw ⊢
    have k:=callA_loc h hrd hw
    exact ⟨k.1,by rw [k.2]⟩
  · cases h

theorem lone_loc {d : Nat} {is : List Nat} {r : Option TV} (h : loneK lo d st r=some st1) (hw : ∀ i∈(fpLone lo d is r).wr,st'.hp i=st.hp i) :
    loneK lo d st' r=some (patch st' st1 (some d) (fpLone lo d is r).wr):=by
  cases r with
  | none => cases h
  | some r =>
    simp only [fpLone] at hw ⊢
    simp only [loneK] at h ⊢
    split at h
    · rename_i hl
      rw [if_pos hl]
      cases ht : thaw (lo+(1000+d * 64)) r st with
      | none => rw [ht] at h; cases h
      | some q =>
        obtain ⟨l,st2⟩:=q
        rw [ht] at h
        obtain rfl:=Option.some.inj h
        have hloc:=thaw_loc r (lo+(1000+d * 64))
        obtain ⟨e1,f1⟩:=hloc _ _ _ ht
        have g1:=f1 st' fun i hi => hw i hi
        rw [g1]
        simp only [callT]
        refine congrArg some (St.ext' (fun i => ?_) fun i => ?_)
        · show upd st'.env d l i = if some d = some i then upd st2.env d l i else st'.env i
          simp only [upd]
          by_cases ei : i=d
          · subst ei; simp
          · rw [if_neg ei,if_neg (by simpa using fun h => ei h.symm)]
        · rfl
    · cases h
theorem loneA_loc {d : Nat} {f : FuncId} {ls : List LV} (h : loneA C lo d f st (solidArgs st.hp ls)=some st1) (hrd : ∀ i∈(fpLoneA C lo d f (solidArgs st.hp ls)).rd,st'.hp i=st.hp i)
    (hw : ∀ i∈(fpLoneA C lo d f (solidArgs st.hp ls)).wr,st'.hp i=st.hp i) :
    loneA C lo d f st' (solidArgs st'.hp ls)=some (patch st' st1 (some d) (fpLoneA C lo d f (solidArgs st.hp ls)).wr)∧solidArgs st'.hp ls=solidArgs st.hp ls:=by
  cases hs : solidArgs st.hp ls with
  | none => rw [hs] at h; cases h
  | some q =>
    obtain ⟨ts,is⟩:=q
    rw [hs] at h hrd hw
    simp only [loneA,fpLoneA] at h hrd hw ⊢
    have his : ∀ i∈is,st'.hp i=st.hp i:=by
      cases hr : C.t f ts with
      | none => rw [hr] at h; cases h
      | some r => rw [hr] at hrd; exact hrd
    rw [solidArgs_eq hs his]
    exact ⟨lone_loc h hw,rfl⟩
theorem loneF_loc {d : Nat} {args : List LV} {l : LV} (h : icallF C lo d 0 args st l=some st1) (hrd : ∀ i∈(fpICall C lo d 0 args st.hp l).rd,st'.hp i=st.hp i) (hw : ∀ i∈(fpICall C lo d 0 args st.hp l).wr,st'.hp i=st.hp i) :
    icallF C lo d 0 args st' l=some (patch st' st1 (some d) (fpICall C lo d 0 args st.hp l).wr)∧fpICall C lo d 0 args st'.hp l=fpICall C lo d 0 args st.hp l:=by
  unfold icallF at h ⊢
  split at h
  · simp only [fpICall, eq_self, if_true] at h hrd hw ⊢
    have k:=loneA_loc h hrd hw
    exact ⟨k.1,by rw [k.2]⟩
  · simp only [fpICall, eq_self, if_true] at h hrd hw ⊢
    have k:=loneA_loc h hrd hw
    exact ⟨k.1,by rw [k.2]⟩
  · cases h
theorem cvb_loc {d : Nat} {l : LV} (h : cvbL st d l=some st1) (hw : ∀ i∈fpA l,st'.hp i=st.hp i) : cvbL st' d l=some (patch st' st1 (some d) (fpA l)):=by
  unfold cvbL at h ⊢
  split at h
  · rename_i id len
    rw [hw id (by simp [fpA])]
    unfold cvbO at h ⊢
    split at h
    · split at h
      · rename_i hh
        rw [if_pos hh]
        obtain rfl:=Option.some.inj h
        refine congrArg some (St.ext' (fun i => ?_) fun i => ?_)
        · simp only [patch, upd]
          by_cases ei : i=d
          · subst ei; simp
          · rw [if_neg ei,if_neg (by simpa using fun h => ei h.symm)]
        · simp only [patch, patchH, fpA, upd, List.mem_singleton]
          by_cases ei : i=id
          · simp [ei]
          · simp [ei]
      · cases h
    · cases h
  · cases h
theorem tightR_none {xs : List X} : tightR lo xs none=none:=by
  unfold tightR; split
  · rfl
  · unfold tightV; split
    · rename_i h; cases h
    · rfl
theorem bslice_loc {d : Nat} {e : TypeId} {sz : Nat} {rows : List (List TV)} {is : List Nat} (h : bsliceK lo st d e sz (some (rows,is))=some st1) (hw : ∀ i∈(lo+d) :: is,st'.hp i=st.hp i) :
    bsliceK lo st' d e sz (some (rows,is))=some (patch st' st1 (some d) ((lo+d) :: is)):=by
  simp only [bsliceK] at h ⊢
  exact mkO_loc (st:=st) h (freezeAll_at is (hw _ (by simp))) (fun i hi => freezeAll_at is (hw i (by simp [hi]))) (fun i hi => freezeAll_out is hi)

theorem mks_loc {d : Nat} {e : TypeId} {z : List TV} {bytes : Nat} {l c : LV} (h : mksK lo st d e z bytes l c=some st1) (hw : ∀ i∈[lo+d],st'.hp i=st.hp i) :
    mksK lo st' d e z bytes l c=some (patch st' st1 (some d) [lo+d]):=by
  unfold mksK at h ⊢
  split at h
  · split at h
    · rename_i hh
      simp only [hh,and_self,if_true]
      exact mkO_loc (st:=st) (wr0:=[]) h (hw _ (by simp)) (by simp) (fun _ _ => rfl)
    · cases h
  · cases h

theorem appz_loc {d : Nat} {e : TypeId} {z : List TV} {bytes : Nat} {l c : LV} (h : appzK lo st d e z bytes l c=some st1) (hw : ∀ i∈[lo+d],st'.hp i=st.hp i) :
    appzK lo st' d e z bytes l c=some (patch st' st1 (some d) [lo+d]):=by
  unfold appzK at h ⊢
  split at h
  · split at h
    · rename_i hh
      simp only [hh,and_self,if_true]
      exact mkO_loc (st:=st) (wr0:=[]) h (hw _ (by simp)) (by simp) (fun _ _ => rfl)
    · cases h
  · cases h
theorem mgetL_eq {h h' : Hp} {ks : List Lk} {kag vag cok : Bool} {zs : List TV} {key : Option (List LV)} {l : LV} (hh : ∀ i∈fpA l,h' i=h i) : mgetL h' ks kag vag zs cok key l=mgetL h ks kag vag zs cok key l:=by
  cases l with
  | m id => cases key<;>simp only [mgetL,hh id (by simp [fpA])]
  | _ => cases key<;>rfl
theorem mlenL_eq {h h' : Hp} {l : LV} (hh : ∀ i∈fpA l,h' i=h i) : mlenL h' l=mlenL h l:=by
  cases l with
  | m id => simp only [mlenL,hh id (by simp [fpA])]
  | _ => rfl
theorem mupd_loc {ks : List Lk} {kag vag : Bool} {n : Nat} {val : Option (List TV × List Nat)} {key : Option (List LV)} {l : LV} {wr : List Nat} (h : mupdL st ks kag vag n val key l=some st1) (hwr : wr=fpM val l) (hw : ∀ i∈wr,st'.hp i=st.hp i) :
    mupdL st' ks kag vag n val key l=some (patch st' st1 none wr):=by
  unfold mupdL at h ⊢
  split at h
  · rename_i key' id
    have hid : id∈wr:=by rw [hwr]; simp [fpM]
    simp only [hw id hid]
    unfold mupdO at h ⊢
    split at h
    · rename_i kc vc is kag' vag' ents h1 h3
      have his : ∀ i∈is,i∈wr:=fun i hi => by rw [hwr]; simp [fpM,fpS,hi]
      split at h
      · rename_i hh
        simp only [hh,and_self,not_false_eq_true,if_true]
        unfold setMap at h ⊢
        split at h
        · obtain rfl := Option.some.inj h
          exact congrArg some (hp_loc hid his (fun i hi => freezeAll_at _ (hw i hi)) (fun i hi => freezeAll_out _ fun hm => hi (his i hm)) (by simp))
        · cases h
      · cases h
    · cases h
  · cases h
theorem mdel_loc {ks : List Lk} {kag : Bool} {key : Option (List LV)} {l : LV} {wr : List Nat} (h : mdelL st ks kag key l=some st1) (hwr : wr=fpA l) (hw : ∀ i∈wr,st'.hp i=st.hp i) :
    mdelL st' ks kag key l=some (patch st' st1 none wr):=by
  unfold mdelL at h ⊢
  split at h
  · rename_i key' id
    have hid : id∈wr:=by rw [hwr]; simp [fpA]
    simp only [hw id hid]
    unfold mdelO at h ⊢
    split at h
    · split at h
      · rename_i hh
        simp only [hh,and_self,if_true]
        unfold setMap at h ⊢
        split at h
        · obtain rfl := Option.some.inj h
          exact congrArg some (hp_loc hid (wr0:=[]) (by simp) hw (fun _ _ => rfl) (by simp))
        · cases h
      · cases h
    · cases h
  · cases h
theorem solidO_eq {h h' : Hp} {x : Option (List LV)} {ts : List TV} {is : List Nat} (he : solidO h x=some (ts,is)) (hh : ∀ i∈is,h' i=h i) : solidO h' x=some (ts,is):=by
  cases x with
  | none => cases he
  | some ls => exact solidCells_eq he hh

theorem loc_op {o : IOp} (hi : o.inn=false) (h : evOp C lo st o=some st1) (he : ∀ i∈o.reads,st'.env i=st.env i) (hrd : ∀ i∈(fpOp C lo st o).rd,st'.hp i=st.hp i) (hw : ∀ i∈(fpOp C lo st o).wr,st'.hp i=st.hp i) :
    evOp C lo st' o=some (patch st' st1 o.dst (fpOp C lo st o).wr)∧fpOp C lo st' o=fpOp C lo st o:=by
  have r1 : ∀ {x : X},(∀ i∈x.rs,i∈o.reads)→x.rd st'.env=x.rd st.env:=fun hx => rd_eq fun i hi => he i (hx i hi)
  have r2 : ∀ {xs : List X},(∀ i∈xrs xs,i∈o.reads)→rds st'.env xs=rds st.env xs:=fun hx => rds_eq fun i hi => he i (hx i hi)
  cases o with
  | icall d k f args =>
    have hk : k=0:=by simpa [IOp.inn] using hi
    subst hk
    simp only [evOp,fpOp] at h hrd hw ⊢
    rw [r1 (x:=f) (by simp +contextual [IOp.reads]),r2 (xs:=args) (by simp +contextual [IOp.reads])]
    exact loneF_loc h hrd hw
  | sst a x n => cases hi
  | cvb d x =>
    simp only [evOp,fpOp] at h hrd hw ⊢
    rw [r1 (x:=x) fun i hi => hi]
    exact ⟨cvb_loc h hw,rfl⟩
  | mv d x =>
    simp only [evOp,Option.some.injEq] at h ⊢
    subst h
    rw [r1 (x:=x) fun i hi => hi]
    exact ⟨set_loc hw,rfl⟩
  | pick d c a b =>
    simp only [evOp] at h ⊢
    rw [r1 (x:=c) (by simp +contextual [IOp.reads]),r1 (x:=a) (by simp +contextual [IOp.reads]),r1 (x:=b) (by simp +contextual [IOp.reads])]
    exact ⟨pick_loc h hw,rfl⟩
  | alloc d zs =>
    exact ⟨mkO_loc (st:=st) (wr0:=[]) h (hw _ (by simp [fpOp])) (by simp) (fun _ _ => rfl),rfl⟩
  | box d x n =>
    simp only [evOp] at h ⊢
    rw [r1 (x:=x) fun i hi => hi]
    refine ⟨?_,rfl⟩
    unfold boxK at h ⊢
    split at h
    · rename_i hh
      simp only [hh,if_true]
      exact mkO_loc (st:=st) (wr0:=[]) h (hw _ (by simp [fpOp])) (by simp) (fun _ _ => rfl)
    · cases h
  | build d zs ps =>
    simp only [evOp] at h ⊢
    exact ⟨setM_loc h (buildCells_eq he) hw,rfl⟩
  | bslice d e sz ps =>
    simp only [evOp,fpOp] at h hrd hw ⊢
    cases hs : solidRows st.hp st.env sz ps with
    | none =>
      rw [hs] at h
      rw [tightR_none] at h; cases h
    | some q =>
      obtain ⟨rows,is⟩:=q
      rw [hs] at h hrd hw
      rw [solidRows_eq hs he hrd]
      obtain ⟨rows',k1,_⟩:=tightR_some (lo:=lo) (xs:=ps) (rows:=rows) (is:=is)
      rw [k1] at h ⊢
      exact ⟨bslice_loc h hw,rfl⟩
  | load d a n ag =>
    simp only [evOp,fpOp] at h hrd hw ⊢
    rw [r1 (x:=a) fun i hi => hi]
    exact ⟨setM_loc h (loadL_eq hrd) hw,rfl⟩
  | store a x n =>
    simp only [evOp,fpOp] at h hrd hw ⊢
    rw [r1 (x:=a) (by simp +contextual [IOp.reads]),r1 (x:=x) (by simp +contextual [IOp.reads])]
    have k:=storeQ_loc h rfl hw
    exact ⟨k.1,by rw [k.2]⟩
  | nchk d x =>
    simp only [evOp] at h ⊢
    exact ⟨setM_loc h (by rw [r1 (x:=x) fun i hi => hi]) hw,rfl⟩
  | bin d bt op x y =>
    simp only [evOp] at h ⊢
    exact ⟨setV_loc h (by rw [r1 (x:=x) (by simp +contextual [IOp.reads]),r1 (x:=y) (by simp +contextual [IOp.reads])]) hw,rfl⟩
  | eqs d neg ks x y =>
    simp only [evOp] at h ⊢
    exact ⟨setV_loc h (by rw [r1 (x:=x) (by simp +contextual [IOp.reads]),r1 (x:=y) (by simp +contextual [IOp.reads])]) hw,rfl⟩
  | un d op x =>
    simp only [evOp] at h ⊢
    exact ⟨setV_loc h (by rw [r1 (x:=x) fun i hi => hi]) hw,rfl⟩
  | conv d k x =>
    simp only [evOp] at h ⊢
    exact ⟨setV_loc h (by rw [r1 (x:=x) fun i hi => hi]) hw,rfl⟩
  | fld d x off n ag =>
    simp only [evOp] at h ⊢
    exact ⟨setM_loc h (by rw [r1 (x:=x) fun i hi => hi]) hw,rfl⟩
  | faddr d a off =>
    simp only [evOp] at h ⊢
    exact ⟨setM_loc h (by rw [r1 (x:=a) fun i hi => hi]) hw,rfl⟩
  | iaddr d x j sz =>
    simp only [evOp,fpOp] at h hrd hw ⊢
    rw [r1 (x:=x) (by simp +contextual [IOp.reads])]
    exact ⟨setM_loc h (by rw [r1 (x:=j) (by simp +contextual [IOp.reads])]; exact iaddrL_eq hrd) hw,rfl⟩
  | aaddr d x j len sz =>
    simp only [evOp] at h ⊢
    exact ⟨setM_loc h (by rw [r1 (x:=x) (by simp +contextual [IOp.reads]),r1 (x:=j) (by simp +contextual [IOp.reads])]) hw,rfl⟩
  | ixa d x j len sz ag =>
    simp only [evOp] at h ⊢
    exact ⟨setM_loc h (by rw [r1 (x:=x) (by simp +contextual [IOp.reads]),r1 (x:=j) (by simp +contextual [IOp.reads])]) hw,rfl⟩
  | ixs d x j =>
    simp only [evOp] at h ⊢
    exact ⟨setM_loc h (by rw [r1 (x:=x) (by simp +contextual [IOp.reads]),r1 (x:=j) (by simp +contextual [IOp.reads])]) hw,rfl⟩
  | ssl d x l u =>
    simp only [evOp] at h ⊢
    rw [r1 (x:=x) (by simp +contextual [IOp.reads])]
    exact ⟨setM_loc h (sslL_eq (fun i hi => he i (by simp [IOp.reads,hi])) (fun i hi => he i (by simp [IOp.reads,hi]))) hw,rfl⟩
  | s2b d x =>
    simp only [evOp] at h ⊢
    exact ⟨setM_loc h (by rw [r1 (x:=x) fun i hi => hi]) hw,rfl⟩
  | slice d x l u m te sz =>
    simp only [evOp,fpOp] at h hrd hw ⊢
    rw [r1 (x:=x) (by simp +contextual [IOp.reads])]
    exact ⟨setM_loc h (sliceL_eq (fun i hi => he i (by simp [IOp.reads,hi])) (fun i hi => he i (by simp [IOp.reads,hi])) (fun i hi => he i (by simp [IOp.reads,hi])) hrd) hw,rfl⟩
  | len d z x =>
    simp only [evOp] at h ⊢
    exact ⟨setV_loc h (by rw [r1 (x:=x) fun i hi => hi]) hw,rfl⟩
  | cap d x =>
    simp only [evOp] at h ⊢
    exact ⟨setV_loc h (by rw [r1 (x:=x) fun i hi => hi]) hw,rfl⟩
  | append d x y e sz bytes =>
    simp only [evOp,fpOp] at h hrd hw ⊢
    rw [r1 (x:=x) (by simp +contextual [IOp.reads]),r1 (x:=y) (by simp +contextual [IOp.reads])]
    exact ⟨app_loc h (rowsOf_eq fun i hi => hrd i (by simp [hi])) rfl hw,rfl⟩
  | copy d x y sz =>
    simp only [evOp,fpOp] at h hrd hw ⊢
    rw [r1 (x:=x) (by simp +contextual [IOp.reads]),r1 (x:=y) (by simp +contextual [IOp.reads])]
    exact ⟨copy_loc h (rowsOf_eq fun i hi => hrd i (by simp [hi])) rfl hw,rfl⟩
  | b2s d x =>
    simp only [evOp,fpOp] at h hrd hw ⊢
    rw [r1 (x:=x) fun i hi => hi]
    exact ⟨setV_loc h (by rw [rowsB_eq hrd]) hw,rfl⟩
  | ext d x j =>
    simp only [evOp] at h ⊢
    exact ⟨setM_loc h (by rw [r1 (x:=x) fun i hi => hi]) hw,rfl⟩
  | mkfn d f cs =>
    simp only [evOp,Option.some.injEq] at h ⊢
    subst h
    rw [r2 (xs:=cs) fun i hi => hi]
    exact ⟨set_loc hw,rfl⟩
  | call d f args =>
    simp only [evOp,fpOp] at h hrd hw ⊢
    rw [r1 (x:=f) (by simp +contextual [IOp.reads]),r2 (xs:=args) (by simp +contextual [IOp.reads])]
    exact callF_loc h hrd hw
  | mn d args =>
    simp only [evOp] at h ⊢
    exact ⟨setM_loc h (by rw [r2 (xs:=args) fun i hi => hi]) hw,rfl⟩
  | mx d args =>
    simp only [evOp] at h ⊢
    exact ⟨setM_loc h (by rw [r2 (xs:=args) fun i hi => hi]) hw,rfl⟩
  | mkslice d l c e z bytes =>
    simp only [evOp,fpOp] at h hrd hw ⊢
    rw [r1 (x:=l) (by simp +contextual [IOp.reads]),r1 (x:=c) (by simp +contextual [IOp.reads])]
    exact ⟨mks_loc h hw,trivial⟩
  | isnil d neg ptr x =>
    simp only [evOp] at h ⊢
    exact ⟨setV_loc h (by rw [r1 (x:=x) fun i hi => hi]) hw,rfl⟩
  | appz d x n e z bytes =>
    simp only [evOp,fpOp] at h hrd hw ⊢
    rw [r1 (x:=x) (by simp +contextual [IOp.reads]),r1 (x:=n) (by simp +contextual [IOp.reads])]
    exact ⟨appz_loc h hw,trivial⟩
  | mkmap d kag vag =>
    exact ⟨mkO_loc (st:=st) (wr0:=[]) h (hw _ (by simp [fpOp])) (by simp) (fun _ _ => rfl),rfl⟩
  | mget d ks kag vag zs cok m k =>
    simp only [evOp,fpOp] at h hrd hw ⊢
    rw [r1 (x:=m) (by simp +contextual [IOp.reads]),r1 (x:=k) (by simp +contextual [IOp.reads])]
    exact ⟨setM_loc h (mgetL_eq hrd) hw,rfl⟩
  | mupd ks kag vag n m k v =>
    simp only [evOp,fpOp] at h hrd hw ⊢
    rw [r1 (x:=m) (by simp +contextual [IOp.reads]),r1 (x:=k) (by simp +contextual [IOp.reads]),r1 (x:=v) (by simp +contextual [IOp.reads])]
    cases hs : solidO st.hp (oneOf vag (v.rd st.env)) with
    | none =>
      rw [hs] at h
      unfold mupdL at h
      split at h
      · unfold mupdO at h
        split at h
        · cases ‹(none : Option (List TV × List Nat))=some _›
        · cases h
      · cases h
    | some q =>
      obtain ⟨vc,is⟩:=q
      rw [hs] at h hw
      have hm : ∃ id,m.rd st.env=.m id:=by
        unfold mupdL at h
        split at h
        · exact ⟨_,by assumption⟩
        · cases h
      obtain ⟨id,hid⟩:=hm
      have his : ∀ i∈is,st'.hp i=st.hp i:=fun i hi => hw i (by rw [hid]; simp [fpM,fpS,hi])
      rw [solidO_eq hs his]
      exact ⟨mupd_loc h rfl hw,rfl⟩
  | mdel ks kag m k =>
    simp only [evOp,fpOp] at h hrd hw ⊢
    rw [r1 (x:=m) (by simp +contextual [IOp.reads]),r1 (x:=k) (by simp +contextual [IOp.reads])]
    exact ⟨mdel_loc h rfl hw,rfl⟩
  | mlen d m =>
    simp only [evOp,fpOp] at h hrd hw ⊢
    rw [r1 (x:=m) fun i hi => hi]
    exact ⟨setV_loc h (by rw [mlenL_eq hrd]) hw,rfl⟩
  | bad => cases h
end
end Go.Proofs.Ytcecojdeljbjoaa.Sx
