/- A region whose order is drawn: in every order that may be drawn it comes to the same. The orders that may be drawn. What is kept behind a region still says what is so. A block that nobody else names,turned; what is carried along; marks. What stays named,named by two lists; rooms behind. What the evaluator takes a piece of code for,the code does. What the evaluator takes a function for,a call of it does. Functions that call one another: what the evaluator comes to,its equations,and that calls do it. A range over a map: whatever the order in which its entries come. -/
import Derived.RangeFuncIn
import Derived.RangeFuncRecord
import Derived.RangeFuncLeaves
import Derived.RangeFuncCalls
import Derived.Scope
import Derived.Maps.RangeRun
import Derived.Test.YtcecojdeljbjoaaSxG1
import Derived.Test.YtcecojdeljbjoaaSxG3
set_option maxRecDepth 100000
set_option linter.unusedSimpArgs false
set_option linter.unusedVariables false
namespace Go.Proofs.Ytcecojdeljbjoaa.Sx
open Go Go.RowKit

section
variable {C : Cs} {lo : Nat} {st st' st1 : St}

theorem loc_oper {o : IOper} (hi : o.op.inn=false) (h : evOper C lo st o=some st1) (he : ∀ i∈o.reads,st'.env i=st.env i) (hrd : ∀ i∈(fpOper C lo st o).rd,st'.hp i=st.hp i) (hw : ∀ i∈(fpOper C lo st o).wr,st'.hp i=st.hp i) :
    evOper C lo st' o=some (patch st' st1 o.op.dst (fpOper C lo st o).wr)∧fpOper C lo st' o=fpOper C lo st o:=by
  have hskip : ∀ {d : Option Nat},skipK st d=some st1→skipK st' d=some (patch st' st1 d []):=fun {d} h => by
    cases d with
    | none =>
      obtain rfl:=Option.some.inj h
      refine congrArg some (St.ext' (fun i => ?_) fun i => ?_)
      · simp [patch]
      · simp [patch,patchH]
    | some d =>
      obtain rfl:=Option.some.inj h
      exact congrArg some (set_loc (by simp))
  obtain ⟨op,gd⟩:=o
  cases gd with
  | none => exact loc_op hi h he hrd hw
  | some gd =>
    obtain ⟨j,want⟩:=gd
    simp only [evOper,fpOper] at h hrd hw ⊢
    rw [he j (by simp [IOper.reads])]
    have he' : ∀ i∈op.reads,st'.env i=st.env i:=fun i hi => he i (by simp [IOper.reads,hi])
    unfold guardK at h ⊢
    split at h
    · rename_i b hb
      rw [hb] at hrd hw ⊢
      simp only [fpG] at hrd hw ⊢
      split at h
      · rename_i e
        simp only [e,if_true] at hrd hw ⊢
        exact loc_op hi h he' hrd hw
      · rename_i e
        simp only [e,if_false] at hrd hw ⊢
        exact ⟨hskip h,trivial⟩
    · rename_i hb
      rw [hb] at hrd hw ⊢
      exact ⟨hskip h,rfl⟩
    · cases h

theorem meets_false : ∀ {a b : List Nat},meets a b=false→∀ i∈a,i∉b
  | [],_,_,i,hi => by simp at hi
  | x :: a, b, h, i, hi => by
    simp only [meets,Bool.or_eq_false_iff] at h
    rcases List.mem_cons.1 hi with rfl | hi
    · simpa using h.1
    · exact meets_false h.2 i hi
theorem apart_ok {a b : Fp} (h : apart a b=true) : (∀ i∈a.wr,i∉b.rd)∧(∀ i∈a.wr,i∉b.wr)∧(∀ i∈b.wr,i∉a.rd):=by
  simp only [apart,Bool.and_eq_true,Bool.not_eq_true'] at h
  exact ⟨meets_false h.1.1,meets_false h.1.2,meets_false h.2⟩
theorem free2_ok {a b : IOper} (h : free2 a b=true) {d : Nat} (hd : a.op.dst=some d) : d∉b.reads∧b.op.dst≠some d:=by
  unfold free2 at h
  rw [hd] at h
  simp only [Bool.and_eq_true,Bool.not_eq_true',bne_iff_ne] at h
  exact ⟨by simpa using h.2.1,h.2.2⟩
theorem free2_inn {a b : IOper} (h : free2 a b=true) : a.op.inn=false:=by
  unfold free2 at h
  simp only [Bool.and_eq_true,Bool.not_eq_true'] at h
  exact h.1

theorem swap {p q : IOper} {s1 s2 : St} (hp : evOper C lo st p=some s1) (hq : evOper C lo s1 q=some s2) (ha : apart (fpOper C lo st p) (fpOper C lo s1 q)=true) (h1 : free2 p q=true) (h2 : free2 q p=true) :
    ∃ t1,evOper C lo st q=some t1∧fpOper C lo st q=fpOper C lo s1 q∧evOper C lo t1 p=some s2∧fpOper C lo t1 p=fpOper C lo st p:=by
  obtain ⟨a1,a2,a3⟩:=apart_ok ha
  have hpp:=(loc_oper (st':=st) (free2_inn h1) hp (fun _ _ => rfl) (fun _ _ => rfl) (fun _ _ => rfl)).1
  have es1 : s1=patch st s1 p.op.dst (fpOper C lo st p).wr:=Option.some.inj (hp.symm.trans hpp)
  have s1e : ∀ i,p.op.dst≠some i→s1.env i=st.env i:=fun i hi => by rw [es1]; simp [patch,hi]
  have s1h : ∀ i,i∉(fpOper C lo st p).wr→s1.hp i=st.hp i:=fun i hi => by rw [es1]; simp [patch,patchH,hi]
  obtain ⟨b1,b2⟩:=loc_oper (st':=st) (free2_inn h2) hq (fun i hi => (s1e i fun e => (free2_ok h1 e).1 hi).symm) (fun i hi => (s1h i fun hm => a1 i hm hi).symm) (fun i hi => (s1h i fun hm => a2 i hm hi).symm)
  have hqq:=(loc_oper (st':=s1) (free2_inn h2) hq (fun _ _ => rfl) (fun _ _ => rfl) (fun _ _ => rfl)).1
  have es2 : s2=patch s1 s2 q.op.dst (fpOper C lo s1 q).wr:=Option.some.inj (hq.symm.trans hqq)
  obtain ⟨c1,c2⟩:=loc_oper (st':=patch st s2 q.op.dst (fpOper C lo s1 q).wr) (free2_inn h1) hp (fun i hi => by
    show (if q.op.dst=some i then s2.env i else st.env i)=st.env i
    rw [if_neg fun e => (free2_ok h2 e).1 hi]) (fun i hi => by
    show patchH st.hp s2.hp _ i=st.hp i
    simp only [patchH]
    rw [if_neg fun e => a3 i e hi]) (fun i hi => by
    show patchH st.hp s2.hp _ i=st.hp i
    simp only [patchH]
    rw [if_neg fun e => a2 i hi e])
  refine ⟨_,b1,b2,?_,c2⟩
  rw [c1]
  refine congrArg some (St.ext' (fun i => ?_) fun i => ?_)
  · have e2 : s2.env i = if q.op.dst = some i then s2.env i else s1.env i := congrFun (congrArg St.env es2) i
    show (if p.op.dst=some i then s1.env i else if q.op.dst=some i then s2.env i else st.env i)=s2.env i
    by_cases hd : p.op.dst=some i
    · rw [if_pos hd,e2,if_neg (free2_ok h1 hd).2]
    · rw [if_neg hd]
      split
      · rfl
      · rename_i hq'
        rw [e2,if_neg hq',s1e i hd]
  · have e2 : s2.hp i = if i ∈ (fpOper C lo s1 q).wr then s2.hp i else s1.hp i := congrFun (congrArg St.hp es2) i
    show (if i∈(fpOper C lo st p).wr then s1.hp i else if i∈(fpOper C lo s1 q).wr then s2.hp i else st.hp i)=s2.hp i
    by_cases hd : i∈(fpOper C lo st p).wr
    · rw [if_pos hd,e2,if_neg (a2 i hd)]
    · rw [if_neg hd]
      split
      · rfl
      · rename_i hq'
        rw [e2,if_neg hq',s1h i hd]

structure Item where
  k : Nat
  o : IOper
  f : Fp
def Runs (C : Cs) (lo : Nat) : List Item→St→St→Prop
  | [],st,st' => st=st'
  | x :: r,st,st' => ∃ s1,evOper C lo st x.o=some s1∧fpOper C lo st x.o=x.f∧Runs C lo r s1 st'
def Ind (ord : List Nat) (x y : Item) : Prop:=(ord.getD y.k 0).testBit x.k=true∨(apart x.f y.f=true∧free2 x.o y.o=true∧free2 y.o x.o=true)

theorem bubble {x : Item} {post : List Item} : ∀ {pre : List Item} {st st' : St},Runs C lo (pre++x :: post) st st'→(∀ y∈pre,apart y.f x.f=true∧free2 y.o x.o=true∧free2 x.o y.o=true)→Runs C lo (x :: (pre++post)) st st'
  | [],st,st',h,_ => h
  | y :: pre, st, st', h, ha => by
    obtain ⟨s1,h1,h2,h3⟩:=h
    obtain ⟨s2,g1,g2,g3⟩:=bubble h3 fun z hz => ha z (by simp [hz])
    obtain ⟨k1,k2,k3⟩:=ha y (by simp)
    obtain ⟨t1,e1,e2,e3,e4⟩:=swap h1 g1 (by rw [h2,g2]; exact k1) k2 k3
    exact ⟨t1,e1,e2.trans g2,s2,e3,e4.trans h2,g3⟩

def SchedOk (ord : List Nat) : List Nat→List Item→Prop
  | [],M => M=[]
  | i :: s,M => ∃ pre x post,M=pre++x :: post∧x.k=i∧(∀ y∈pre,(ord.getD i 0).testBit y.k=false)∧SchedOk ord s (pre++post)

theorem sched_idx {ord : List Nat} {ios : List IOper} : ∀ {s : List Nat} {M : List Item} {st st' : St},SchedOk ord s M→Runs C lo M st st'→M.Pairwise (Ind ord)→(∀ x∈M,ios[x.k]?=some x.o)→evIdx C lo ios s st=some st'
  | [], M, st, st', hs, hr, _, _ => by
    have e : M=[]:=hs
    subst e
    have e : st=st':=hr
    rw [e]; rfl
  | i :: s, M, st, st', hs, hr, hp, hi => by
    obtain ⟨pre,x,post,rfl,rfl,h1,h2⟩:=hs
    have hind : ∀ y∈pre,Ind ord y x:=fun y hy => (List.pairwise_append.1 hp).2.2 y hy x (by simp)
    obtain ⟨s1,g1,_,g3⟩:=bubble hr fun y hy => by
      rcases hind y hy with h | h
      · rw [h1 y hy] at h; cases h
      · exact h
    simp only [evIdx,hi x (by simp),g1]
    refine sched_idx h2 g3 ?_ fun y hy => hi y (by rcases List.mem_append.1 hy with h | h<;>simp [h])
    have hsub : (pre++post).Sublist (pre++x :: post):=List.Sublist.append (List.Sublist.refl _) (List.sublist_cons_self _ _)
    exact hp.sublist hsub

theorem apartAll_ok {f : Fp} {o : Nat} : ∀ {fs : List (Nat × Fp)},apartAll f o fs=true→∀ x∈fs,o.testBit x.1=true∨apart x.2 f=true
  | [],_,x,hx => by simp at hx
  | (i, g) :: fs, h, x, hx => by
    simp only [apartAll,Bool.and_eq_true,Bool.or_eq_true] at h
    rcases List.mem_cons.1 hx with rfl | hx
    · exact h.1
    · exact apartAll_ok h.2 x hx
def Fp.none (f : Fp) : Prop:=f.rd=[]∧f.wr=[]
theorem meets_nil : ∀ a : List Nat,meets a []=false
  | [] => rfl
  | x :: a => by simp [meets,meets_nil a]
theorem apart_left {f g : Fp} (h : f.none) : apart f g=true:=by
  obtain ⟨a,b⟩:=f
  obtain ⟨h1,h2⟩:=h
  simp only at h1 h2
  subst h1 h2
  simp [apart,meets,meets_nil]
theorem apart_right {f g : Fp} (h : g.none) : apart f g=true:=by
  obtain ⟨a,b⟩:=g
  obtain ⟨h1,h2⟩:=h
  simp only at h1 h2
  subst h1 h2
  simp [apart,meets,meets_nil]
theorem stepD_ok {fs : List (Nat × Fp)} {i n : Nat} {k : List (Nat × Fp)→Option St→Option St} {x : Option St} {f : Fp} {r : St} (h : stepD fs i n k x f=some r) :
    ∃ fs',k fs' x=some r∧(f.none∨(i,f)∈fs')∧(∀ y∈fs,y∈fs')∧∀ y∈fs,n.testBit y.1=true∨apart y.2 f=true:=by
  obtain ⟨a,b⟩:=f
  cases a with
  | nil => cases b with
    | nil => exact ⟨fs,h,.inl ⟨rfl,rfl⟩,fun _ h => h,fun y _ => .inr (apart_right ⟨rfl,rfl⟩)⟩
    | cons b w =>
      simp only [stepD,stepE] at h
      split at h
      · rename_i hh
        exact ⟨_,h,.inr (by simp),fun _ h => by simp [h],fun y hy => apartAll_ok hh y hy⟩
      · cases h
  | cons a r' =>
    simp only [stepD,stepE] at h
    split at h
    · rename_i hh
      exact ⟨_,h,.inr (by simp),fun _ h => by simp [h],fun y hy => apartAll_ok hh y hy⟩
    · cases h
theorem freeAll_ok {s : Nat} {o : IOper} : ∀ {ps : List IOper} {i : Nat},freeAll s o i ps=true→∀ j p,ps[j]?=some p→s.testBit (i+j)=true∨(free2 p o=true∧free2 o p=true)
  | [],_,_,j,g,hj => by simp at hj
  | x :: ps, i, h, 0, p, hj => by
    simp only [freeAll,Bool.and_eq_true,Bool.or_eq_true] at h
    simp only [List.getElem?_cons_zero,Option.some.injEq] at hj
    subst hj
    exact h.1
  | x :: ps, i, h, j + 1, p, hj => by
    simp only [freeAll,Bool.and_eq_true] at h
    have:=freeAll_ok h.2 j p (by simpa using hj)
    rwa [show i+(j+1)=i+1+j by omega]

theorem draw_runs {ord : List Nat} : ∀ {ios : List IOper} {os : List Oper} {k : Nat} {L : List Item} {fs : List (Nat × Fp)} {st st' : St},evOpsD C lo ios (ord.drop k) k fs (some st)=some st'→drawOk ord k (L.map (·.o)) os ios=true →
    (∀ (i : Nat) (x : Item),L[i]?=some x→x.k=i)→L.length=k→(∀ x∈L,x.f.none∨(x.k,x.f)∈fs) →
    ∃ M : List Item,M.map (·.o)=ios∧(∀ (i : Nat) (x : Item),M[i]?=some x→x.k=k+i)∧Runs C lo M st st'∧(∀ x∈L,∀ y∈M,Ind ord x y)∧M.Pairwise (Ind ord)
  | [], os, k, L, fs, st, st', h, hd, hL, hk, hfs => by
    have e : st=st':=Option.some.inj h
    exact ⟨[],rfl,by simp,e,by simp,List.Pairwise.nil⟩
  | o :: ios,[],k,L,fs,st,st',h,hd,hL,hk,hfs => by simp [drawOk] at hd
  | o :: ios, oo :: os, k, L, fs, st, st', h, hd, hL, hk, hfs => by
    cases hord : ord.drop k with
    | nil => rw [hord] at h; cases h
    | cons n rest =>
      have hn : ord.getD k 0=n:=by
        have : (ord.drop k)[0]?=some n:=by rw [hord]; rfl
        rw [List.getElem?_drop] at this
        rw [List.getD_eq_getElem?_getD,show k=k+0 by omega,this]; rfl
      have hrest : rest=ord.drop (k+1):=by
        have : (ord.drop k).tail=rest:=by rw [hord]; rfl
        rw [← this,List.tail_drop]
      rw [hord] at h
      simp only [evOpsD] at h
      obtain ⟨fs',h,hf1,hf2,hf3⟩:=stepD_ok h
      simp only [drawOk,Bool.and_eq_true] at hd
      obtain ⟨⟨_,hfree⟩,hd'⟩:=hd
      cases h1 : evOper C lo st o with
      | none => rw [h1] at h; cases ios<;>cases rest<;>cases h
      | some s1 =>
        rw [h1] at h
        rw [hrest] at h
        have hind : ∀ x∈L,Ind ord x ⟨k,o,fpOper C lo st o⟩:=fun x hx => by
          obtain ⟨j,hj⟩:=List.getElem?_of_mem hx
          have e:=hL j x hj
          have hap : (ord.getD k 0).testBit x.k=true∨apart x.f (fpOper C lo st o)=true:=by
            rcases hfs x hx with hz | hz
            · exact .inr (apart_left hz)
            · rw [hn]; exact hf3 _ hz
          rcases hap with h | h
          · exact .inl h
          · rcases freeAll_ok hfree j x.o (by simp [hj]) with h' | h'
            · left; simpa [e] using h'
            · exact .inr ⟨h,h'.1,h'.2⟩
        obtain ⟨M,m1,m2,m3,m4,m5⟩:=draw_runs (L:=L++[⟨k,o,fpOper C lo st o⟩]) h (by simpa using hd') (fun i x hi => by
          by_cases hlt : i < L.length
          · rw [List.getElem?_append_left hlt] at hi; exact hL i x hi
          · rw [List.getElem?_append_right (by omega)] at hi
            have : i - L.length=0:=by
              have:=(List.getElem?_eq_some_iff.1 hi).1
              simp at this; omega
            rw [this] at hi
            simp only [List.getElem?_cons_zero,Option.some.injEq] at hi
            rw [← hi]
            show k=i
            omega) (by simp [hk]) (fun x hx => by
          rcases List.mem_append.1 hx with hx | hx
          · exact (hfs x hx).imp id (hf2 _)
          · simp only [List.mem_singleton] at hx
            subst hx
            exact hf1)
        refine ⟨⟨k,o,fpOper C lo st o⟩ :: M,by simp [m1],?_,⟨s1,h1,rfl,m3⟩,?_,?_⟩
        · intro i x hi
          cases i with
          | zero => simp only [List.getElem?_cons_zero,Option.some.injEq] at hi; rw [← hi]; rfl
          | succ i => rw [m2 i x (by simpa using hi)]; omega
        · intro x hx y hy
          rcases List.mem_cons.1 hy with rfl | hy
          · exact hind x hx
          · exact m4 x (by simp [hx]) y hy
        · exact List.Pairwise.cons (fun y hy => m4 _ (by simp) y hy) m5
end
end Go.Proofs.Ytcecojdeljbjoaa.Sx
namespace Go.Proofs.Ytcecojdeljbjoaa.Sx
open Go Go.RowKit

theorem bitsOk_ok {ws ord : List Nat} {s : Nat} : ∀ {n : Nat},bitsOk ws ord s n=true→∀ j < n,s.testBit j=true→j∈ws∨∃ e∈ws,(ord.getD e 0).testBit j=true
  | 0,_,j,hj,_ => by omega
  | n + 1, h, j, hj, hb => by
    simp only [bitsOk,Bool.and_eq_true] at h
    by_cases e : j=n
    · subst e
      have h1:=h.1
      simp only [hb,Bool.not_true,Bool.false_or,Bool.or_eq_true] at h1
      rcases h1 with h1 | h1
      · exact .inl (by simpa using h1)
      · exact .inr (by simpa using h1)
    · exact bitsOk_ok h.2 j (by omega) hb

theorem drawOk_get {ord : List Nat} : ∀ {os : List Oper} {ios ahead : List IOper} {k : Nat},drawOk ord k ahead os ios=true→os.length=ios.length∧∀ (j : Nat) (o : Oper),os[j]?=some o →
    (∀ e∈waits o,e < k+j)∧ord.getD (k+j) 0 < 2 ^ (k+j)∧bitsOk (waits o) ord (ord.getD (k+j) 0) (k+j)=true
  | [],[],_,_,_ => ⟨rfl,by simp⟩
  | [],_ :: _,_,_,h => by simp [drawOk] at h
  | _ :: _,[],_,_,h => by simp [drawOk] at h
  | o :: os, i :: ios, ahead, k, h => by
    simp only [drawOk,Bool.and_eq_true] at h
    obtain ⟨⟨⟨⟨h1,h1'⟩,h2⟩,_⟩,h4⟩:=h
    obtain ⟨e,ih⟩:=drawOk_get h4
    refine ⟨by simp [e],fun j p hj => ?_⟩
    cases j with
    | zero =>
      simp only [List.getElem?_cons_zero,Option.some.injEq] at hj
      subst hj
      exact ⟨by simpa using h1,by simpa using h1',h2⟩
    | succ j =>
      have:=ih j p (by simpa using hj)
      rwa [show k+1+j=k+(j+1) by omega] at this

theorem testBit_lt {s k i : Nat} (h : s < 2 ^ k) (hb : s.testBit i=true) : i < k:=by
  rcases Nat.lt_or_ge i k with h' | h'
  · exact h'
  · have : s < 2 ^ i := Nat.lt_of_lt_of_le h (Nat.pow_le_pow_right (by omega) h')
    rw [Nat.testBit_lt_two_pow this] at hb
    cases hb

theorem getD_set (xs : Array Bool) (i j : Nat) (b : Bool) (hi : i < xs.size) : (xs.setIfInBounds i true).getD j b=if j=i then true else xs.getD j b:=by
  simp only [Array.getD_eq_getD_getElem?,Array.getElem?_setIfInBounds]
  by_cases h : i=j
  · subst h; simp [hi]
  · rw [if_neg h,if_neg fun e => h e.symm]

theorem waits_mem {o : Oper} {listed : Array Bool} : (o.after.all fun e => !Region.binds .any e || listed.getD e.on false)=true↔∀ j∈waits o,listed.getD j false=true:=by
  simp only [waits,List.mem_map,List.mem_filter,Array.all_eq_true',Bool.or_eq_true,Bool.not_eq_true',forall_exists_index,and_imp]
  constructor
  · intro h j e he hb hj
    rcases h e (by simpa using he) with h | h
    · rw [h] at hb; cases hb
    · rw [← hj]; exact h
  · intro h e he
    cases hb : Region.binds .any e with
    | false => exact .inl rfl
    | true => exact .inr (h e.on e (by simpa using he) hb rfl)

theorem go_ok {ops : Array Oper} {ord : List Nat} (hw : ∀ (j : Nat) (o : Oper),ops[j]?=some o→(∀ e∈waits o,e < j)∧ord.getD j 0 < 2 ^ j∧bitsOk (waits o) ord (ord.getD j 0) j=true) :
    ∀ (fuel t : Nat) (listed : Array Bool) (acc : List Nat) (M : List Item),listed.size=ops.size→(∀ j,(∃ x∈M,x.k=j)↔(j < ops.size∧listed.getD j true=false))→M.Pairwise (fun x y => x.k < y.k) →
      (∀ j < ops.size,listed.getD j true=true→∀ i,(ord.getD j 0).testBit i=true→listed.getD i true=true)→M.length≤fuel →
      ∃ s,Region.linearise.go .any ops fuel t listed acc=acc.reverse++s∧SchedOk ord s M
  | 0, t, listed, acc, M, _, _, _, _, hf => by
    have e : M=[]:=List.eq_nil_of_length_eq_zero (by omega)
    subst e
    exact ⟨[],by simp [Region.linearise.go],rfl⟩
  | fuel + 1, t, listed, acc, M, hsz, hM, hp, hcl, hf => by
    simp only [Region.linearise.go]
    have hgd : ∀ j,j < ops.size→listed.getD j false=listed.getD j true:=fun j hj => by
      simp [Array.getD_eq_getD_getElem?,hsz,hj]
    generalize hrs : ((List.range ops.size).filter fun i => !listed.getD i true && ((ops[i]?).map (·.after.all fun e => !Region.binds .any e || listed.getD e.on false)).getD false)=rs
    have hmem : ∀ i,i∈rs↔i < ops.size∧listed.getD i true=false∧∃ o,ops[i]?=some o∧∀ j∈waits o,listed.getD j false=true:=by
      intro i
      rw [← hrs]
      simp only [List.mem_filter,List.mem_range,Bool.and_eq_true,Bool.not_eq_true']
      constructor
      · rintro ⟨h1, h2, h3⟩
        refine ⟨h1,h2,ops[i],by simp [h1],?_⟩
        rw [show ops[i]?=some ops[i] by simp [h1]] at h3
        simpa using waits_mem.1 (by simpa using h3)
      · rintro ⟨h1, h2, o, h3, h4⟩
        refine ⟨h1,h2,?_⟩
        rw [h3]
        simpa using waits_mem.2 h4
    cases M with
    | nil =>
      have : rs=[]:=List.eq_nil_iff_forall_not_mem.2 fun i hi => by
        obtain ⟨h1,h2,_⟩:=(hmem i).1 hi
        obtain ⟨x,hx,_⟩:=(hM i).2 ⟨h1,h2⟩
        simp at hx
      rw [this]
      exact ⟨[],by simp,rfl⟩
    | cons x0 M' =>
      have hx0:=(hM x0.k).1 ⟨x0,by simp,rfl⟩
      have hmin : ∀ j < x0.k,listed.getD j true=true:=fun j hj => by
        cases hl : listed.getD j true with
        | true => rfl
        | false =>
          obtain ⟨y,hy,e⟩:=(hM j).2 ⟨by omega,hl⟩
          rcases List.mem_cons.1 hy with rfl | hy
          · omega
          · have := (List.pairwise_cons.1 hp).1 y hy
            omega
      have hin : x0.k∈rs:=(hmem _).2 ⟨hx0.1,hx0.2,ops[x0.k]'hx0.1,by simp [hx0.1],fun j hj => by
        have hlt:=(hw x0.k _ (by simp [hx0.1])).1 j hj
        rw [hgd j (by omega)]
        exact hmin j hlt⟩
      have hpos : 0 < rs.length:=List.length_pos_of_mem hin
      have hlt:=Nat.mod_lt t hpos
      obtain ⟨i,hi⟩ : ∃ i,rs[t % rs.length]?=some i:=⟨_,List.getElem?_eq_getElem hlt⟩
      rw [hi]
      simp only
      obtain ⟨hi1,hi2,o,ho,hi3⟩:=(hmem i).1 (List.mem_of_getElem? hi)
      obtain ⟨x,hx,hxk⟩:=(hM i).2 ⟨hi1,hi2⟩
      obtain ⟨pre,post,hsp⟩:=List.append_of_mem hx
      obtain ⟨hwo,hwlt,hwb⟩:=hw i o ho
      have hbits : ∀ b,(ord.getD i 0).testBit b=true→listed.getD b true=true:=fun b hb => by
        have hbl:=testBit_lt hwlt hb
        rcases bitsOk_ok hwb b hbl hb with h | ⟨e,he,h⟩
        · rw [← hgd b (by omega)]; exact hi3 b h
        · have := hwo e he
          exact hcl e (by omega) (by rw [← hgd e (by omega)]; exact hi3 e he) b h
      rw [hsp] at hM hp hf
      have hpp:=List.pairwise_append.1 hp
      have hpre : ∀ y∈pre,y.k < i:=fun y hy => hxk ▸ hpp.2.2 y hy x (by simp)
      have hpost : ∀ y∈post,i < y.k:=fun y hy => hxk ▸ (List.pairwise_cons.1 hpp.2.1).1 y hy
      have hset : ∀ j b,(listed.setIfInBounds i true).getD j b=if j=i then true else listed.getD j b:=fun j b => getD_set listed i j b (by omega)
      obtain ⟨s,hs1,hs2⟩:=go_ok hw fuel (t / rs.length) (listed.setIfInBounds i true) (i :: acc) (pre++post) (by simp [hsz]) (fun j => by
        rw [hset]
        constructor
        · rintro ⟨y, hy, rfl⟩
          have hne : y.k≠i:=by
            rcases List.mem_append.1 hy with h | h
            · exact Nat.ne_of_lt (hpre y h)
            · exact Nat.ne_of_gt (hpost y h)
          rw [if_neg hne]
          exact (hM y.k).1 ⟨y,by rcases List.mem_append.1 hy with h | h<;>simp [h],rfl⟩
        · rintro ⟨h1, h2⟩
          by_cases e : j=i
          · rw [if_pos e] at h2; cases h2
          · rw [if_neg e] at h2
            obtain ⟨y,hy,rfl⟩:=(hM j).2 ⟨h1,h2⟩
            refine ⟨y,?_,rfl⟩
            rcases List.mem_append.1 hy with h | h
            · simp [h]
            · rcases List.mem_cons.1 h with rfl | h
              · exact absurd hxk e
              · simp [h]) (hp.sublist (List.Sublist.append (List.Sublist.refl _) (List.sublist_cons_self _ _))) (fun j hj hl b hb => by
        rw [hset] at hl ⊢
        split
        · rfl
        · by_cases e : j = i
          · subst e; exact hbits b hb
          · rw [if_neg e] at hl; exact hcl j hj hl b hb) (by
        simp only [List.length_append,List.length_cons] at hf ⊢; omega)
      refine ⟨i :: s,by rw [hs1]; simp,pre,x,post,hsp,hxk,fun y hy => ?_,hs2⟩
      cases hb : (ord.getD i 0).testBit y.k with
      | false => rfl
      | true =>
        have h1:=hbits _ hb
        have h2:=((hM y.k).1 ⟨y,by simp [hy],rfl⟩).2
        rw [h1] at h2; cases h2

/-! ### every order -/
theorem go_mem (ops : Array Oper) : ∀ (fuel t : Nat) (listed : Array Bool) (acc : List Nat),Region.linearise.go .any ops fuel t listed acc∈allGo ops fuel listed acc
  | 0,t,listed,acc => by simp [Region.linearise.go,allGo]
  | fuel + 1, t, listed, acc => by
    simp only [Region.linearise.go,allGo,allGo.allRs]
    generalize hrs : ((List.range ops.size).filter fun i => !listed.getD i true && ((ops[i]?).map (·.after.all fun e => !Region.binds .any e || listed.getD e.on false)).getD false)=rs
    cases hi : rs[t % rs.length]? with
    | none =>
      have : rs=[]:=by
        cases rs with
        | nil => rfl
        | cons x r =>
          have:=List.getElem?_eq_none_iff.1 hi
          have hlt:=Nat.mod_lt t (show 0 < (x :: r).length by simp)
          omega
      subst this
      simp
    | some i =>
      have hm:=List.mem_of_getElem? hi
      rw [if_neg (by simp only [List.isEmpty_iff]; intro e; rw [e] at hm; simp at hm)]
      simp only
      exact List.mem_flatMap.2 ⟨i,hm,go_mem ops fuel (t / rs.length) _ _⟩
theorem sched_mem (ops : Array Oper) (t : Nat) : Region.schedule true ops t∈allOrd ops:=by
  simp only [Region.schedule,Bool.true_or,if_true,Region.linearise]
  exact go_mem ops _ t _ _
theorem sameK_some {a b : Option (Ex × St)} {r : Ex × St} (h : sameK a b=some r) : a=some r∧b=some r:=by
  unfold sameK at h
  split at h
  · rename_i e; exact ⟨h,by rw [← e]; exact h⟩
  · cases h
theorem evAll_mem {C : Cs} {lo : Nat} {ios : List IOper} {g : GC} {st : St} {r : Ex × St} : ∀ {ss : List (List Nat)},evAll C lo ios g st ss=some r→∀ s∈ss,regK lo g (evIdx C lo ios s st)=some r
  | [],h,s,hs => by cases h
  | [x], h, s, hs => by
    simp only [List.mem_singleton] at hs
    subst hs
    exact h
  | x :: y :: ss, h, s, hs => by
    simp only [evAll] at h
    obtain ⟨h1,h2⟩:=sameK_some h
    rcases List.mem_cons.1 hs with rfl | hs
    · exact h1
    · exact evAll_mem h2 s hs

section
variable {C : Cs} {lo : Nat} {st st' : St}

theorem draw_idx {ops : Array Oper} {ios : List IOper} {ord : List Nat} (h : evOpsD C lo ios ord 0 [] (some st)=some st') (hd : drawOk ord 0 [] ops.toList ios=true) (t : Nat) :
    evIdx C lo ios (Region.schedule true ops t) st=some st':=by
  obtain ⟨M,m1,m2,m3,_,m5⟩:=draw_runs (L:=[]) (fs:=[]) (k:=0) (by simpa using h) (by simpa using hd) (by simp) rfl (by simp)
  obtain ⟨hlen,hget⟩:=drawOk_get hd
  have hML : M.length=ops.size:=by rw [← List.length_map (f:=Item.o),m1,← hlen]; simp
  have hmem : ∀ x∈M,∃ i : Nat,M[i]?=some x∧x.k=i:=fun x hx => by
    obtain ⟨i,hi⟩:=List.getElem?_of_mem hx
    exact ⟨i,hi,by simpa using m2 i x hi⟩
  obtain ⟨s,hs1,hs2⟩:=go_ok (ops:=ops) (ord:=ord) (fun j o ho => by simpa using hget j o (by simpa using ho)) ops.size t (Array.replicate ops.size false) [] M (by simp) (fun j => by
    constructor
    · rintro ⟨x, hx, rfl⟩
      obtain ⟨i,hi,e⟩:=hmem x hx
      have:=(List.getElem?_eq_some_iff.1 hi).1
      refine ⟨by omega,?_⟩
      simp [Array.getD_eq_getD_getElem?,e,show i < ops.size by omega]
    · rintro ⟨h1, _⟩
      refine ⟨M[j]'(by omega),by simp,?_⟩
      simpa using m2 j _ (List.getElem?_eq_getElem (by omega))) (by
    rw [List.pairwise_iff_getElem]
    intro i j hi hj hlt
    rw [show (M[i]).k=i by simpa using m2 i _ (List.getElem?_eq_getElem hi),show (M[j]).k=j by simpa using m2 j _ (List.getElem?_eq_getElem hj)]
    exact hlt) (fun j hj hl => by
    simp [Array.getD_eq_getD_getElem?,hj] at hl) (by omega)
  have e : Region.schedule true ops t=s:=by
    simp only [Region.schedule,Bool.true_or,if_true,Region.linearise]
    rw [hs1]; rfl
  rw [e]
  refine sched_idx hs2 m3 m5 fun x hx => ?_
  obtain ⟨i,hi,e⟩:=hmem x hx
  rw [e,← m1]
  simp [hi]
end
end Go.Proofs.Ytcecojdeljbjoaa.Sx
namespace Go.Proofs.Ytcecojdeljbjoaa.Sx
open Go Go.RowKit

theorem nodup_ok : ∀ {l : List Nat},nodup l=true→l.Nodup
  | [],_ => List.nodup_nil
  | a :: r, h => by
    simp only [nodup,Bool.and_eq_true,Bool.not_eq_true'] at h
    exact List.nodup_cons.2 ⟨by simpa using h.1,nodup_ok h.2⟩

section
variable {N : Rm} {w0 : World} {ok0 : Nat→Prop} {ok : Nat→Prop} {a : Act} {w : World} {st : St} {ρ : Rho} {lo : Nat}

def keepRho (lo : Nat) (ρ : Rho) : List (Nat × Nat)→Rho
  | [] => fun n => if n < lo then ρ n else none
  | (a,b) :: r => upd (keepRho lo ρ r) (lo+b) (ρ (lo+a))

def Now (lo : Nat) (j : List (Nat × Nat)) (h : Hp) (ρ : Rho) (r : List (Nat × Nat)) (i n : Nat) : Prop:=keepHp lo j h r n=maskO lo j (h i)∧keepRho lo ρ r n=ρ i

theorem lk_list : ∀ {r : List (Nat × Nat)} {i n : Nat},lk lo i r=some n→(i < lo∧n=i)∨∃ x∈r,lo+x.1=i∧lo+x.2=n
  | [], i, n, h => by
    simp only [lk] at h
    split at h
    · exact .inl ⟨by assumption,(Option.some.inj h).symm⟩
    · cases h
  | (a, b) :: r, i, n, h => by
    simp only [lk] at h
    split at h
    · exact .inr ⟨(a,b),by simp,by assumption,Option.some.inj h⟩
    · rcases lk_list h with h | ⟨x, hx, h1⟩
      · exact .inl h
      · exact .inr ⟨x,by simp [hx],h1⟩
theorem keepLo_eq (j : List (Nat × Nat)) (h : Hp) (lo n : Nat) : keepLo j h lo n=if n < lo then maskO lo j (h n) else none:=by
  cases lo with
  | zero => simp [keepLo,h0]
  | succ lo => rfl
theorem now_lo {j : List (Nat × Nat)} {h : Hp} : ∀ {r : List (Nat × Nat)} {i : Nat},i < lo→Now lo j h ρ r i i
  | [],i,hi => ⟨by simp only [keepHp,keepLo_eq,hi,if_true],by simp [keepRho,hi]⟩
  | (a, b) :: r, i, hi => by
    have ih:=now_lo (j:=j) (h:=h) (r:=r) hi
    exact ⟨by simp only [keepHp]; rw [upd_ne _ _ (by omega)]; exact ih.1,by simp only [keepRho]; rw [upd_ne _ _ (by omega)]; exact ih.2⟩
theorem now_mem {j : List (Nat × Nat)} {h : Hp} : ∀ {r : List (Nat × Nat)},(r.map (·.2)).Nodup→∀ x∈r,Now lo j h ρ r (lo+x.1) (lo+x.2)
  | [],_,x,hx => by simp at hx
  | (a, b) :: r, hn, x, hx => by
    simp only [List.map_cons,List.nodup_cons] at hn
    rcases List.mem_cons.1 hx with rfl | hx
    · exact ⟨by simp only [keepHp,upd_same],by simp only [keepRho,upd_same]⟩
    · have ih := now_mem (j := j) (h := h) hn.2 x hx
      have hne : lo+x.2≠lo+b:=fun e => hn.1 (by rw [show b=x.2 by omega]; exact List.mem_map.2 ⟨x,hx,rfl⟩)
      exact ⟨by simp only [keepHp]; rw [upd_ne _ _ hne]; exact ih.1,by simp only [keepRho]; rw [upd_ne _ _ hne]; exact ih.2⟩
theorem now_lk {j : List (Nat × Nat)} (hj : (j.map (·.2)).Nodup) {h : Hp} {i n : Nat} (e : lk lo i j=some n) : Now lo j h ρ j i n:=by
  rcases lk_list e with ⟨h1,rfl⟩ | ⟨x,hx,rfl,rfl⟩
  · exact now_lo h1
  · exact now_mem hj x hx
theorem now_inv {j : List (Nat × Nat)} {h : Hp} : ∀ {r : List (Nat × Nat)} {n : Nat} {o : Ob},keepHp lo j h r n=some o→(n < lo∧Now lo j h ρ r n n)∨∃ x∈r,lo+x.2=n∧Now lo j h ρ r (lo+x.1) n
  | [], n, o, e => by
    simp only [keepHp,keepLo_eq] at e
    split at e
    · exact .inl ⟨by assumption,now_lo (by assumption)⟩
    · cases e
  | (a, b) :: r, n, o, e => by
    by_cases hn : n=lo+b
    · subst hn
      exact .inr ⟨(a,b),by simp,rfl,by simp only [keepHp,upd_same],by simp only [keepRho,upd_same]⟩
    · simp only [keepHp] at e
      rw [upd_ne _ _ hn] at e
      rcases now_inv e with ⟨h1,h2⟩ | ⟨x,hx,h1,h2⟩
      · exact .inl ⟨h1,by simp only [keepHp]; rw [upd_ne _ _ hn]; exact h2.1,by simp only [keepRho]; rw [upd_ne _ _ hn]; exact h2.2⟩
      · exact .inr ⟨x,by simp [hx],h1,by simp only [keepHp]; rw [upd_ne _ _ hn]; exact h2.1,by simp only [keepRho]; rw [upd_ne _ _ hn]; exact h2.2⟩
theorem lk_of_mem : ∀ {r : List (Nat × Nat)},(r.map (·.1)).Nodup→∀ x∈r,lk lo (lo+x.1) r=some (lo+x.2)
  | [],_,x,hx => by simp at hx
  | (a, b) :: r, hn, x, hx => by
    simp only [List.map_cons,List.nodup_cons] at hn
    rcases List.mem_cons.1 hx with rfl | hx
    · simp [lk]
    · have hne : lo + a ≠ lo + x.1 := fun e => hn.1 (by rw [show a = x.1 by omega]; exact List.mem_map.2 ⟨x, hx, rfl⟩)
      simp only [lk,hne,if_false]
      exact lk_of_mem hn.2 x hx
theorem lk_lo : ∀ {r : List (Nat × Nat)} {i : Nat},i < lo→lk lo i r=some i
  | [],i,h => by simp [lk,h]
  | (a,b) :: r,i,h => by simp only [lk]; rw [if_neg (by omega)]; exact lk_lo h

structure Ren (lo : Nat) (j : List (Nat × Nat)) (h h' : Hp) (ρ ρ' : Rho) : Prop where
  at' : ∀ i n,lk lo i j=some n→h' n=maskO lo j (h i)∧ρ' n=ρ i

theorem maskC_ok {j : List (Nat × Nat)} {h h' : Hp} {ρ ρ' : Rho} (R : Ren lo j h h' ρ ρ') {l : LV} {x : Value} (hl : LRep w ok ρ h l x) : LRep w ok ρ' h' (maskC lo j l) x:=by
  unfold maskC
  split
  · rename_i id off
    cases e : lk lo id j with
    | none => simp only [renP,LRep]
    | some n =>
      obtain ⟨h1,h2⟩:=R.at' _ _ e
      simp only [renP,LRep] at hl ⊢
      rw [h1]
      cases ho : h id with
      | none => rw [ho] at hl; exact hl.elim
      | some o =>
        rw [ho] at hl
        cases o with
        | var f cs => simp only [PRep] at hl; simp only [maskO,PRep]; rwa [h2]
        | arr f e sz rows => exact hl.elim
        | map f k v es => exact hl.elim
        | dead => exact hl
  · rename_i id r off
    cases e : lk lo id j with
    | none => simp only [renE,LRep]
    | some n =>
      obtain ⟨h1,h2⟩:=R.at' _ _ e
      simp only [renE,LRep] at hl ⊢
      rw [h1]
      cases ho : h id with
      | none => rw [ho] at hl; exact hl.elim
      | some o =>
        rw [ho] at hl
        cases o with
        | var f cs => exact hl.elim
        | arr f e sz rows => simp only [ERep] at hl; simp only [maskO,ERep]; rwa [h2]
        | map f k v es => exact hl.elim
        | dead => exact hl
  · rename_i id off len
    cases e : lk lo id j with
    | none => simp only [renS,LRep]
    | some n =>
      obtain ⟨h1,h2⟩:=R.at' _ _ e
      simp only [renS,LRep] at hl ⊢
      rw [h1]
      cases ho : h id with
      | none => rw [ho] at hl; exact hl.elim
      | some o =>
        rw [ho] at hl
        cases o with
        | var f cs => simp only [SRep] at hl; simp only [maskO,SRep]; rwa [h2]
        | arr f e sz rows => simp only [SRep] at hl; simp only [maskO,SRep]; rwa [h2]
        | map f k v es => exact hl.elim
        | dead => exact hl
  · rename_i id
    cases e : lk lo id j with
    | none => simp only [renM,LRep]
    | some n =>
      obtain ⟨h1,h2⟩:=R.at' _ _ e
      simp only [renM,LRep] at hl ⊢
      rw [h1]
      cases ho : h id with
      | none => rw [ho] at hl; exact hl.elim
      | some o =>
        rw [ho] at hl
        cases o with
        | var f cs => exact hl.elim
        | arr f e sz rows => exact hl.elim
        | map f k v es => simp only [MRep] at hl; simp only [maskO,MRep]; rwa [h2]
        | dead => exact hl
  · simp only [LRep] at hl ⊢; exact hl
  · simp only [LRep,LReps] at hl ⊢; exact hl
  · simp only [LRep]
theorem maskCs_length {j : List (Nat × Nat)} : ∀ ls : List LV,(maskCs lo j ls).length=ls.length
  | [] => rfl
  | _ :: ls => congrArg (·+1) (maskCs_length ls)
theorem maskCs_ok {j : List (Nat × Nat)} {h h' : Hp} {ρ ρ' : Rho} (R : Ren lo j h h' ρ ρ') {one : Bool} : ∀ {ls : List LV} {xs : List Value},LReps w ok ρ h one ls xs→LReps w ok ρ' h' one (maskCs lo j ls) xs
  | [],xs,hx => by simpa only [LReps,maskCs] using hx
  | l :: ls, xs, hx => by
    simp only [LReps,maskCs] at hx ⊢
    obtain ⟨v,r,h1,h2,h3,h4⟩:=hx
    exact ⟨v,r,h1,h2,maskC_ok R h3,maskCs_ok R h4⟩
theorem mask2_ok {j : List (Nat × Nat)} {h h' : Hp} {ρ ρ' : Rho} (R : Ren lo j h h' ρ ρ') {one : Bool} : ∀ {ls : List LV} {xs : List Value},LReps w ok ρ h one ls xs→LReps w ok ρ' h' one (mask2 lo j ls) xs
  | [],xs,hx => by simpa only [LReps,mask2] using hx
  | l :: ls, xs, hx => by
    simp only [LReps] at hx
    obtain ⟨v,r,h1,h2,h3,h4⟩:=hx
    have ih:=mask2_ok R h4
    unfold mask2
    split
    · rename_i e; cases e
    · rename_i cs ls' e
      obtain ⟨rfl,rfl⟩:=List.cons.inj e
      simp only [LRep] at h3
      obtain ⟨vs,k1,k2⟩:=h3
      simp only [LReps]
      exact ⟨v,r,h1,h2,by simp only [LRep]; exact ⟨vs,k1,maskCs_ok R k2⟩,ih⟩
    · rename_i c ls' _ e
      obtain ⟨rfl,rfl⟩:=List.cons.inj e
      simp only [LReps]
      exact ⟨v,r,h1,h2,maskC_ok R h3,ih⟩
theorem maskL_ok {j : List (Nat × Nat)} {h h' : Hp} {ρ ρ' : Rho} (R : Ren lo j h h' ρ ρ') {l : LV} {x : Value} (hl : LRep w ok ρ h l x) : LRep w ok ρ' h' (maskL lo j l) x:=by
  unfold maskL
  split
  · simp only [LRep] at hl ⊢
    obtain ⟨vs,k1,k2⟩:=hl
    exact ⟨vs,k1,maskCs_ok R k2⟩
  · simp only [LRep] at hl ⊢
    obtain ⟨vs,k1,k2⟩:=hl
    exact ⟨vs,k1,maskCs_ok R k2⟩
  · simp only [LRep] at hl ⊢
    obtain ⟨vs,k1,k2⟩:=hl
    exact ⟨vs,k1,mask2_ok R k2⟩
  · exact maskC_ok R hl
theorem maskO_own {j : List (Nat × Nat)} {x : Option Ob} {o' : Ob} (h : maskO lo j x=some o') : ∃ o,x=some o∧o'.own=o.own∧o'.live=o.live:=by
  unfold maskO at h
  split at h
  · obtain rfl:=Option.some.inj h; exact ⟨_,rfl,rfl,rfl⟩
  · obtain rfl:=Option.some.inj h; exact ⟨_,rfl,rfl,rfl⟩
  · obtain rfl:=Option.some.inj h; exact ⟨_,rfl,rfl,rfl⟩
  · obtain rfl:=Option.some.inj h; exact ⟨_,rfl,rfl,rfl⟩
  · cases h
theorem keepEnv_ok {j : List (Nat × Nat)} {e : Nat→LV} (k : Nat) : ∀ {ks : List Nat},keepEnv lo j e ks k=.u∨keepEnv lo j e ks k=maskL lo j (e k)
  | [] => .inl rfl
  | s :: ks => by
    simp only [keepEnv]
    by_cases h : k=s
    · subst h; rw [upd_same]; exact .inr rfl
    · rw [upd_ne _ _ h]; exact keepEnv_ok k

theorem Gam.gc (g : Gam N w0 ok0 st ok ρ a w) {G : GC} (hG : G.ok=true) (hst : ∀ k,maskL lo G.ids (N.gh k).1=(N.gh k).1) : Gam N w0 ok0 (G.run lo st) ok (keepRho lo ρ G.ids) a w:=by
  simp only [GC.ok,Bool.and_eq_true] at hG
  have n1:=nodup_ok hG.1
  have n2:=nodup_ok hG.2
  have R : Ren lo G.ids st.hp (keepHp lo G.ids st.hp G.ids) ρ (keepRho lo ρ G.ids):=⟨fun i n e => now_lk n2 e⟩
  have inv : ∀ n o',keepHp lo G.ids st.hp G.ids n=some o'→∃ i o,st.hp i=some o∧maskO lo G.ids (some o)=some o'∧o'.own=o.own∧o'.live=o.live∧keepRho lo ρ G.ids n=ρ i∧lk lo i G.ids=some n:=by
    intro n o' h
    have fin : ∀ i,Now lo G.ids st.hp ρ G.ids i n→lk lo i G.ids=some n→∃ i o,st.hp i=some o∧maskO lo G.ids (some o)=some o'∧o'.own=o.own∧o'.live=o.live∧keepRho lo ρ G.ids n=ρ i∧lk lo i G.ids=some n:=by
      intro i hn e
      have hm : maskO lo G.ids (st.hp i)=some o':=by rw [← hn.1]; exact h
      obtain ⟨o,ho,k1,k2⟩:=maskO_own hm
      exact ⟨i,o,ho,by rw [← ho]; exact hm,k1,k2,hn.2,e⟩
    rcases now_inv (ρ:=ρ) h with ⟨h1,h2⟩ | ⟨x,hx,rfl,h2⟩
    · exact fin n h2 (lk_lo h1)
    · exact fin _ h2 (lk_of_mem n1 x hx)
  refine { below:=g.below,old:=g.old,size:=g.size,defers:=g.defers,free:=?_,inj:=?_,fresh:=?_,obj:=?_,env:=fun k => ?_,kept:=g.kept,gh:=fun k => by
              have:=maskL_ok (w:=w) (ok:=ok) R (g.gh k)
              rwa [hst k] at this,res:=fun b o h => ⟨(g.res b o h).1,(g.res b o h).2.1,(g.res b o h).2.2.1,fun n p K hn hl hr => by
                obtain ⟨i,q,k1,_,k3,k4,k5,_⟩:=inv n p hn
                exact (g.res b o h).2.2.2 i q K k1 (by rw [← bars_eq k3 k4]; exact hl) (k5 ▸ hr)⟩ }
  · intro b hb
    refine ⟨(g.free b hb).1,fun n o' K ho hown => ?_⟩
    obtain ⟨i,o,k1,_,k3,_,k5,_⟩:=inv n o' ho
    rw [k5]
    exact (g.free b hb).2 i o K k1 (k3 ▸ hown)
  · intro n n' o o' b K K' hn hn' hl hl' hr hr'
    obtain ⟨i,p,k1,_,_,k4,k5,k6⟩:=inv n o hn
    obtain ⟨i',p',l1,_,_,l4,l5,l6⟩:=inv n' o' hn'
    have:=g.inj i i' p p' b K K' k1 l1 (k4 ▸ hl) (l4 ▸ hl') (k5 ▸ hr) (l5 ▸ hr')
    subst this
    exact Option.some.inj (k6.symm.trans l6)
  · intro n o b K hn hl hr
    obtain ⟨i,p,k1,_,_,k4,k5,_⟩:=inv n o hn
    exact g.fresh i p b K k1 (k4 ▸ hl) (k5 ▸ hr)
  · intro n o' hn
    obtain ⟨i,p,k1,k2,_,_,k5,_⟩:=inv n o' hn
    have hob:=g.obj i p k1
    cases p with
    | dead =>
      obtain rfl:=Option.some.inj k2
      trivial
    | var f cs =>
      obtain rfl:=Option.some.inj k2
      obtain ⟨b,K,cur,ty,h1,h2,h3,h4,h5⟩:=hob
      refine ⟨b,K,cur,ty,by rw [k5]; exact h1,h2,h3,?_,?_⟩
      · rw [maskCs_length]; exact h4
      · rw [maskCs_length]; exact maskCs_ok R h5
    | arr f e sz rows =>
      obtain rfl:=Option.some.inj k2
      rcases hob with ⟨h1,h2⟩ | ⟨b,K,cur,h1,h2⟩
      · exact .inl ⟨by rw [k5]; exact h1,h2⟩
      · exact .inr ⟨b,K,cur,by rw [k5]; exact h1,h2⟩
    | map f kag vag ents =>
      obtain rfl:=Option.some.inj k2
      obtain ⟨b,K,es,clock,h1,h2⟩:=hob
      exact ⟨b,K,es,clock,by rw [k5]; exact h1,h2⟩
  · rcases keepEnv_ok (lo := lo) (j := G.ids) (e := st.env) k (ks := G.slots) with h | h
    · show LRep w ok _ _ (keepEnv lo G.ids st.env G.slots k) _
      rw [h]; simp only [LRep]
    · show LRep w ok _ _ (keepEnv lo G.ids st.env G.slots k) _
      rw [h]; exact maskL_ok R (g.env k)
end
end Go.Proofs.Ytcecojdeljbjoaa.Sx
namespace Go.Proofs.Ytcecojdeljbjoaa.Sx
open Go Go.RowKit
section
variable {P : Program} {N : Rm} {w0 : World} {ok0 : Nat→Prop} {st : St} {ok : Nat→Prop} {ρ : Rho} {a : Act} {w : World}

def Rm.with (N : Rm) (b : Nat) (o : Obj) : Rm:={ N with res:=upd N.res b (some o) }
theorem with_at (N : Rm) (b : Nat) (o : Obj) : (N.with b o).res b=some o:=upd_same _ _ _
theorem with_ne (N : Rm) {b c : Nat} (o : Obj) (h : c≠b) : (N.with b o).res c=N.res c:=upd_ne _ _ h

theorem Gam.reserve (g : Gam N w0 ok0 st ok ρ a w) (o : Obj) : Gam (N.with w.heap.size o) w0 ok0 st ok ρ a (w.alloc o):=by
  have g1:=g.world (below_alloc w o)
  refine { below:=g1.below,old:=g1.old,size:=g1.size,defers:=g1.defers,free:=g1.free,inj:=g1.inj,fresh:=g1.fresh,obj:=g1.obj,env:=g1.env,kept:=g1.kept,gh:=g1.gh,res:=fun b p h => ?_ }
  by_cases e : b=w.heap.size
  · subst e
    rw [with_at] at h
    obtain rfl:=Option.some.inj h
    exact ⟨g.below.size,World.alloc_heap_new w _,fun _ ho => Nat.lt_irrefl _ (g.free _ ho).1,fun i q K hi hl hr => Nat.lt_irrefl _ (g.fresh i q _ K hi (bars_live hl) hr).2⟩
  · rw [with_ne _ _ e] at h
    exact g1.res b p h
theorem Gam.reput (g : Gam N w0 ok0 st ok ρ a w) {b : Nat} {o : Obj} (hb : N.res b=some o) (o' : Obj) (hw : watchO o=false:=by rfl) : Gam (N.with b o') w0 ok0 st ok ρ a (w.putObj b o'):=by
  obtain ⟨h1,h2,h3,h4⟩:=g.res b o hb
  have h3:=h3 hw
  have hlt : b < w.heap.size:=(Array.getElem?_eq_some_iff.1 h2).1
  have hother : ∀ k,k≠b→(w.putObj b o').heap[k]?=w.heap[k]?:=fun k hk => World.putObj_heap_other hk
  have hs : Same w (w.putObj b o') ok ok:=fun k hk => ⟨hother k (fun e => h3 (e ▸ hk)),hk⟩
  have hl:=Later.refl ρ st.hp
  refine { below:=?_,old:=g.old,size:=g.size,defers:=g.defers,free:=?_,inj:=g.inj,fresh:=?_,obj:=?_,env:=fun k => (g.env k).to hs hl,kept:=g.kept,gh:=fun k => (g.gh k).to hs hl,res:=?_ }
  · exact g.below.trans ⟨rfl,rfl,rfl,by simp,fun k hk => hother k (by omega)⟩
  · intro c hc
    exact ⟨by simpa using (g.free c hc).1,(g.free c hc).2⟩
  · intro i p c K hi hl hr
    exact ⟨(g.fresh i p c K hi hl hr).1,by simpa using (g.fresh i p c K hi hl hr).2⟩
  · intro i p hi
    cases hlv : p.live with
    | false => cases p with
      | dead => trivial
      | var f cs => simp [Ob.live] at hlv
      | arr f e sz rows => simp [Ob.live] at hlv
      | map f k v es => simp [Ob.live] at hlv
    | true => exact (g.obj i p hi).to hs hl rfl fun c K hc => hother c fun e => by subst e; exact h4 i p K hi (bars_all hw hlv) hc
  · intro c p h
    by_cases e : c=b
    · subst e
      rw [with_at] at h
      obtain rfl:=Option.some.inj h
      exact ⟨h1,World.putObj_heap_same hlt,fun _ => h3,fun i p K hi hl hr => h4 i p K hi (bars_all hw (bars_live hl)) hr⟩
    · rw [with_ne _ _ e] at h
      obtain ⟨k1,k2,k3,k4⟩:=g.res c p h
      exact ⟨k1,(hother c e).trans k2,k3,k4⟩

theorem Gam.less (g : Gam N w0 ok0 st ok ρ a w) {M : Rm} (hn : M.n=N.n) (hd : M.ds=N.ds) (hK : ∀ s,M.K s=true→a.tmps.getD s undef=M.T s) (hg : ∀ k,LRep w ok ρ st.hp (M.gh k).1 (M.gh k).2) (hr : ∀ b o,M.res b=some o→N.res b=some o) : Gam M w0 ok0 st ok ρ a w :=
  { below:=g.below,old:=g.old,size:=by rw [hn]; exact g.size,defers:=by rw [hd]; exact g.defers,free:=g.free,inj:=g.inj,fresh:=g.fresh,obj:=g.obj,env:=g.env,kept:=hK,gh:=hg,res:=fun b o h => g.res b o (hr b o h) }
theorem Gam.frame (g : Gam N w0 ok0 st ok ρ a w) {M : Rm} {env : Nat→LV} {b : Act} (hn : b.tmps.size=M.n) (hd : b.defers=M.ds) (hK : ∀ s,M.K s=true→b.tmps.getD s undef=M.T s) (hg : ∀ k,LRep w ok ρ st.hp (M.gh k).1 (M.gh k).2)
    (he : ∀ k,LRep w ok ρ st.hp (env k) (b.tmps.getD k undef)) (hr : ∀ b o,M.res b=some o→N.res b=some o) : Gam M w0 ok0 ⟨env,st.hp⟩ ok ρ b w :=
  { below:=g.below,old:=g.old,size:=hn,defers:=hd,free:=g.free,inj:=g.inj,fresh:=g.fresh,obj:=g.obj,env:=he,kept:=hK,gh:=hg,res:=fun b o h => g.res b o (hr b o h) }
end

def ghosts (env : Nat→LV) (a : Act) (gh : Nat→LV × Value) (k : Nat) : LV × Value:=if k % 2=0 then (env (k / 2),a.tmps.getD (k / 2) undef) else gh (k / 2)
theorem ghosts_env (env : Nat→LV) (a : Act) (gh : Nat→LV × Value) (k : Nat) : ghosts env a gh (2 * k)=(env k,a.tmps.getD k undef):=by
  unfold ghosts
  rw [if_pos (by omega),show 2 * k / 2=k by omega]
theorem ghosts_gh (env : Nat→LV) (a : Act) (gh : Nat→LV × Value) (k : Nat) : ghosts env a gh (2 * k+1)=gh k:=by
  unfold ghosts
  rw [if_neg (by omega),show (2 * k+1) / 2=k by omega]
theorem bindL_eq : ∀ (ls : List LV) (k i : Nat),bindL k ls i=if k≤i then (match ls[i - k]? with | some l => l | none => .u) else .u
  | [],k,i => by simp [bindL,e0]
  | l :: ls, k, i => by
    simp only [bindL,upd]
    by_cases e : i=k
    · subst e; simp
    · rw [if_neg e, bindL_eq ls (k + 1) i]
      by_cases hk : k≤i
      · rw [if_pos hk,if_pos (by omega),show i - k=(i - (k+1))+1 by omega,List.getElem?_cons_succ]
      · rw [if_neg hk,if_neg (by omega)]

/-! ### marks -/
section
variable {P : Program} {w0 : World} {ok0 : Nat→Prop}
def marksOk (N0 N : Rm) : List Deferred→Prop
  | [] => True
  | d :: ds => (∃ D,d={ target:=.collected D,args:=#[] }∧N0.res D=none∧N.res D=some (.deferred (some []))∧∀ d'∈ds,d'≠{ target:=.collected D,args:=#[] })∧marksOk N0 N ds
theorem marks_with {N0 N : Rm} {D : Nat} {o : Obj} : ∀ {ds : List Deferred},marksOk N0 N ds→(∀ d∈ds,d≠{ target:=.collected D,args:=#[] })→marksOk N0 (N.with D o) ds
  | [],_,_ => trivial
  | d :: ds, h, hne => by
    obtain ⟨⟨E,rfl,h1,h2,h3⟩,h4⟩:=h
    refine ⟨⟨E,rfl,h1,?_,h3⟩,marks_with h4 fun d hd => hne d (by simp [hd])⟩
    rw [with_ne]
    · exact h2
    · intro e; subst e; exact hne _ (by simp) rfl
theorem marks_up {N0 N N' : Rm} (hs : ∀ b o,N.res b=some o→N'.res b=some o) : ∀ {ds : List Deferred},marksOk N0 N ds→marksOk N0 N' ds
  | [],_ => trivial
  | d :: ds, h => by
    obtain ⟨⟨E,rfl,h1,h2,h3⟩,h4⟩:=h
    exact ⟨⟨E,rfl,h1,hs _ _ h2,h3⟩,marks_up hs h4⟩
theorem marks_down {N0 N1 N : Rm} (hs : ∀ b,N1.res b=none→N0.res b=none) : ∀ {ds : List Deferred},marksOk N1 N ds→marksOk N0 N ds
  | [],_ => trivial
  | d :: ds, h => by
    obtain ⟨⟨E,rfl,h1,h2,h3⟩,h4⟩:=h
    exact ⟨⟨E,rfl,hs _ h1,h2,h3⟩,marks_down hs h4⟩
theorem marks_some {N0 N : Rm} {D : Nat} : ∀ {ds : List Deferred},marksOk N0 N ds→{ target:=.collected D,args:=#[] }∈ds→N.res D=some (.deferred (some []))
  | [],_,hm => by simp at hm
  | d :: ds, h, hm => by
    obtain ⟨⟨E,rfl,h1,h2,h3⟩,h4⟩:=h
    rcases List.mem_cons.1 hm with e | hm
    · cases e; exact h2
    · exact marks_some h4 hm
theorem marks_append {N0 N : Rm} : ∀ {es bs : List Deferred},marksOk N0 N es→marksOk N0 N bs→(∀ a∈es,a∉bs)→marksOk N0 N (es++bs)
  | [],_,_,hb,_ => hb
  | d :: ds, bs, h, hb, hd => by
    obtain ⟨⟨E,rfl,h1,h2,h3⟩,h4⟩:=h
    refine ⟨⟨E,rfl,h1,h2,fun d' hm => ?_⟩,marks_append h4 hb fun a ha => hd a (by simp [ha])⟩
    rcases List.mem_append.1 hm with hm | hm
    · exact h3 _ hm
    · intro e; subst e; exact hd _ (by simp) hm
theorem leaves_marks {fn : Func} {R : Ending→World→Prop} {N0 : Rm} : ∀ (ds : List Deferred) {N : Rm} {st : St} {ok : Nat→Prop} {ρ : Rho} {a : Act} {w : World},Gam N w0 ok0 st ok ρ a w→marksOk N0 N ds→N.gh=N0.gh→(∀ b o,N0.res b=some o→N.res b=some o) →
    (∀ N' w',Gam N' w0 ok0 st ok ρ a w'→N'.gh=N0.gh→(∀ b o,N0.res b=some o→N'.res b=some o)→∃ v,(results fn a.tmps).run P w'=.ok v w'∧R (.returned v) w')→LeavesInM (FR none) 0 P fn a.tmps R ds .returning w
  | [], N, st, ok, ρ, a, w, g, _, hgh, hs, hR => by
    obtain ⟨v,h1,h2⟩:=hR N w g hgh hs
    exact ⟨v,h1,h2⟩
  | d :: ds, N, st, ok, ρ, a, w, g, hm, hgh, hs, hR => by
    obtain ⟨⟨D,rfl,h1,h2,h3⟩,h4⟩:=hm
    refine ⟨by simp,.inl ⟨D,_,rfl,run_takeDeferred (g.res D _ h2).2.1,?_⟩⟩
    refine leaves_marks ds (g.reput h2 (.deferred none)) (marks_with h4 h3) hgh (fun b o hb => ?_) hR
    rw [with_ne]
    · exact hs b o hb
    · intro e; subst e; rw [h1] at hb; cases hb
structure Ext (N N' : Rm) : Prop where
  n : N'.n=N.n
  K : N'.K=N.K
  T : N'.T=N.T
  gh : N'.gh=N.gh
  res : ∀ b o,N.res b=some o→N'.res b=some o
  ds : ∃ ms,N'.ds=ms++N.ds∧marksOk N N' ms
theorem Ext.refl (N : Rm) : Ext N N:=⟨rfl,rfl,rfl,rfl,fun _ _ h => h,[],rfl,trivial⟩
theorem Ext.trans {N N' N'' : Rm} (a : Ext N N') (b : Ext N' N'') : Ext N N'':=by
  obtain ⟨ms,h1,h2⟩:=a.ds
  obtain ⟨ms',k1,k2⟩:=b.ds
  refine ⟨b.n.trans a.n,b.K.trans a.K,b.T.trans a.T,b.gh.trans a.gh,fun x o h => b.res x o (a.res x o h),ms'++ms,by rw [k1,h1,List.append_assoc],?_⟩
  have hd : ∀ x,N'.res x=none→N.res x=none:=fun x h => by
    cases hx : N.res x with
    | none => rfl
    | some o => rw [a.res x o hx] at h; cases h
  refine marks_append (marks_down hd k2) (marks_up b.res h2) fun d hm hm' => ?_
  have : ∀ {ds : List Deferred},marksOk N' N'' ds→d∈ds→∃ D,d={ target:=.collected D,args:=#[] }∧N'.res D=none:=by
    intro ds h hm
    induction ds with
    | nil => simp at hm
    | cons e ds ih =>
      obtain ⟨⟨E,rfl,q1,_⟩,q2⟩:=h
      rcases List.mem_cons.1 hm with rfl | hm
      · exact ⟨E,rfl,q1⟩
      · exact ih q2 hm
  obtain ⟨D,rfl,q⟩:=this k2 hm
  rw [marks_some h2 hm'] at q
  cases q
end
end Go.Proofs.Ytcecojdeljbjoaa.Sx
namespace Go.Proofs.Ytcecojdeljbjoaa.Sx
open Go Go.RowKit

theorem maskC_maskC {lo lo2 : Nat} {j j2 : List (Nat × Nat)} (h : ∀ i i',lk lo i j=some i'→lk lo2 i' j2=some i') (l : LV) : maskC lo2 j2 (maskC lo j l)=maskC lo j l:=by
  cases l with
  | p id off => simp only [maskC]; cases e : lk lo id j with
    | none => rfl
    | some i' => simp only [renP,h _ _ e]
  | pe id r off => simp only [maskC]; cases e : lk lo id j with
    | none => rfl
    | some i' => simp only [renE,h _ _ e]
  | s id off len => simp only [maskC]; cases e : lk lo id j with
    | none => rfl
    | some i' => simp only [renS,h _ _ e]
  | m id => simp only [maskC]; cases e : lk lo id j with
    | none => rfl
    | some i' => simp only [renM,h _ _ e]
  | tup cs => cases cs<;>rfl
  | _ => rfl
theorem maskCs_maskCs {lo lo2 : Nat} {j j2 : List (Nat × Nat)} (h : ∀ i i',lk lo i j=some i'→lk lo2 i' j2=some i') : ∀ ls : List LV,maskCs lo2 j2 (maskCs lo j ls)=maskCs lo j ls
  | [] => rfl
  | l :: ls => by simp only [maskCs,maskC_maskC h,maskCs_maskCs h ls]
theorem maskC_agg {lo : Nat} {j : List (Nat × Nat)} (l : LV) : ∀ cs,maskC lo j l≠.agg cs:=by
  intro cs
  cases l with
  | p id off => simp only [maskC]; cases lk lo id j<;>simp [renP]
  | pe id r off => simp only [maskC]; cases lk lo id j<;>simp [renE]
  | s id off len => simp only [maskC]; cases lk lo id j<;>simp [renS]
  | m id => simp only [maskC]; cases lk lo id j<;>simp [renM]
  | tup cs => cases cs<;>simp [maskC]
  | _ => simp [maskC]
theorem mask2_cons {lo : Nat} {j : List (Nat × Nat)} (l : LV) (ls : List LV) (h : ∀ cs,l≠.agg cs) : mask2 lo j (l :: ls)=maskC lo j l :: mask2 lo j ls:=by
  cases l<;>first | rfl | exact absurd rfl (h _)
theorem mask2_mask2 {lo lo2 : Nat} {j j2 : List (Nat × Nat)} (h : ∀ i i',lk lo i j=some i'→lk lo2 i' j2=some i') : ∀ ls : List LV,mask2 lo2 j2 (mask2 lo j ls)=mask2 lo j ls
  | [] => rfl
  | l :: ls => by
    by_cases ha : ∃ cs,l=.agg cs
    · obtain ⟨cs, rfl⟩ := ha
      simp only [mask2,maskCs_maskCs h,mask2_mask2 h ls]
    · rw [mask2_cons l ls fun cs e => ha ⟨cs,e⟩,mask2_cons _ _ (maskC_agg l),maskC_maskC h,mask2_mask2 h ls]
theorem maskL_plain {lo : Nat} {j : List (Nat × Nat)} {l : LV} (h1 : ∀ cs,l≠.agg cs) (h2 : ∀ f cs,l≠.fn f cs) (h3 : ∀ c cs,l≠.tup (c :: cs)) : maskL lo j l=maskC lo j l:=by
  cases l with
  | agg cs => exact absurd rfl (h1 _)
  | fn f cs => exact absurd rfl (h2 _ _)
  | tup cs => cases cs with
    | nil => rfl
    | cons c cs => exact absurd rfl (h3 _ _)
  | _ => rfl
theorem maskC_fn {lo : Nat} {j : List (Nat × Nat)} (l : LV) : (∀ f cs,maskC lo j l≠.fn f cs)∧∀ c cs,maskC lo j l≠.tup (c :: cs):=by
  cases l with
  | p id off => simp only [maskC]; cases lk lo id j<;>simp [renP]
  | pe id r off => simp only [maskC]; cases lk lo id j<;>simp [renE]
  | s id off len => simp only [maskC]; cases lk lo id j<;>simp [renS]
  | m id => simp only [maskC]; cases lk lo id j<;>simp [renM]
  | tup cs => cases cs<;>simp [maskC]
  | _ => simp [maskC]
theorem maskL_maskL {lo lo2 : Nat} {j j2 : List (Nat × Nat)} (h : ∀ i i',lk lo i j=some i'→lk lo2 i' j2=some i') (l : LV) : maskL lo2 j2 (maskL lo j l)=maskL lo j l:=by
  by_cases h1 : ∃ cs,l=.agg cs
  · obtain ⟨cs,rfl⟩:=h1; simp only [maskL,maskCs_maskCs h]
  by_cases h2 : ∃ f cs,l=.fn f cs
  · obtain ⟨f,cs,rfl⟩:=h2; simp only [maskL,maskCs_maskCs h]
  by_cases h3 : ∃ c cs,l=.tup (c :: cs)
  · obtain ⟨c, cs, rfl⟩ := h3
    have key : ∀ ls : List LV,maskL lo2 j2 (.tup (mask2 lo j ls))=.tup (mask2 lo2 j2 (mask2 lo j ls)):=fun ls => by cases hm : mask2 lo j ls<;>rfl
    show maskL lo2 j2 (.tup (mask2 lo j (c :: cs)))=.tup (mask2 lo j (c :: cs))
    rw [key,mask2_mask2 h]
  rw [maskL_plain (fun cs e => h1 ⟨cs,e⟩) (fun f cs e => h2 ⟨f,cs,e⟩) (fun c cs e => h3 ⟨c,cs,e⟩),maskL_plain (maskC_agg l) (maskC_fn l).1 (maskC_fn l).2,maskC_maskC h]

theorem lk_cases {lo i i' : Nat} : ∀ {j : List (Nat × Nat)},lk lo i j=some i'→(i'=i∧i < lo)∨∃ q∈j,i=lo+q.1∧i'=lo+q.2
  | [], h => by
    simp only [lk] at h
    split at h
    · exact .inl ⟨(Option.some.inj h).symm,by assumption⟩
    · cases h
  | (a, b) :: r, h => by
    simp only [lk] at h
    split at h
    · rename_i e
      exact .inr ⟨(a,b),by simp,e.symm,(Option.some.inj h).symm⟩
    · rcases lk_cases h with h | ⟨q, h1, h2⟩
      · exact .inl h
      · exact .inr ⟨q,by simp [h1],h2⟩
theorem lk_lower {lo i : Nat} (h : i < lo) : ∀ j : List (Nat × Nat),lk lo i j=some i
  | [] => by simp [lk,h]
  | (a,b) :: r => by simp only [lk]; rw [if_neg (by omega)]; exact lk_lower h r
theorem lk_diag {lo c : Nat} {r : List (Nat × Nat)} : ∀ {ks : List (Nat × Nat)},(∀ q∈ks,q.1=q.2)→(c,c)∈ks→lk lo (lo+c) (ks++r)=some (lo+c)
  | [],_,h => by simp at h
  | (a, b) :: ks, hd, h => by
    have hab : a=b:=hd (a,b) (by simp)
    subst hab
    simp only [List.cons_append,lk]
    split
    · rename_i e; rw [e]
    · rename_i e
      refine lk_diag (fun q hq => hd q (by simp [hq])) ?_
      rcases List.mem_cons.1 h with h | h
      · exact absurd (by cases h; rfl) e
      · exact h

theorem ksOf_diag (g : GC) : ∀ q∈ksOf g,q.1=q.2:=by
  intro q hq
  rcases List.mem_cons.1 hq with rfl | hq
  · rfl
  · obtain ⟨p, _, rfl⟩ := List.mem_map.1 hq
    rfl
theorem look_addKs {id : Nat} {ks : List (Nat × Nat)} : ∀ {A : List (Nat × GC)},(look id (addKs ks A)).ok=true→∃ g,look id (addKs ks A)=addK ks g
  | [],h => by simp [addKs,look,GC.ok,nodup] at h
  | (a, g) :: r, h => by
    simp only [addKs,look] at h ⊢
    split
    · exact ⟨g,rfl⟩
    · rename_i e
      rw [if_neg e] at h
      exact look_addKs h
theorem keep_ks {lo id : Nat} {ks j : List (Nat × Nat)} {A : List (Nat × GC)} (hks : ∀ q∈ks,q.1=q.2) (hj : ∀ q∈j,(q.2,q.2)∈ks) (hok : (look id (addKs ks A)).ok=true) (l : LV) :
    maskL lo (look id (addKs ks A)).ids (maskL lo j l)=maskL lo j l:=by
  obtain ⟨g,hg⟩:=look_addKs hok
  rw [hg]
  refine maskL_maskL (fun i i' h => ?_) l
  rcases lk_cases h with ⟨rfl,h1⟩ | ⟨q,h1,_,rfl⟩
  · exact lk_lower h1 _
  · exact lk_diag hks (hj q h1)
theorem keep_low {lo : Nat} {j : List (Nat × Nat)} (hj : ∀ q∈j,q.2 < 1000000) (l : LV) : maskL (lo+1000000) [] (maskL lo j l)=maskL lo j l:=by
  refine maskL_maskL (fun i i' h => ?_) l
  rcases lk_cases h with ⟨rfl,h1⟩ | ⟨q,h1,_,rfl⟩
  · exact lk_lower (by omega) _
  · exact lk_lower (by have:=hj q h1; omega) _

section
variable {w : World} {ok : Nat→Prop}
theorem lk_eq {lo i i' : Nat} {j : List (Nat × Nat)} (hj : ∀ q∈j,q.1=q.2) (h : lk lo i j=some i') : i'=i:=by
  rcases lk_cases h with ⟨h,_⟩ | ⟨q,h1,h2,h3⟩
  · exact h
  · rw [h2,h3,hj q h1]
theorem maskC_diag {ρ : Rho} {h : Hp} {lo : Nat} {j : List (Nat × Nat)} (hj : ∀ q∈j,q.1=q.2) {l : LV} {x : Value} (hl : LRep w ok ρ h l x) : LRep w ok ρ h (maskC lo j l) x:=by
  cases l with
  | p id off => simp only [maskC]; cases e : lk lo id j with
    | none => simp only [renP,LRep]
    | some i => have:=lk_eq hj e; subst this; exact hl
  | pe id r off => simp only [maskC]; cases e : lk lo id j with
    | none => simp only [renE,LRep]
    | some i => have:=lk_eq hj e; subst this; exact hl
  | s id off len => simp only [maskC]; cases e : lk lo id j with
    | none => simp only [renS,LRep]
    | some i => have:=lk_eq hj e; subst this; exact hl
  | m id => simp only [maskC]; cases e : lk lo id j with
    | none => simp only [renM,LRep]
    | some i => have:=lk_eq hj e; subst this; exact hl
  | v t => exact hl
  | u => exact hl
  | agg cs => simp only [maskC,LRep]
  | fn f cs => simp only [maskC,LRep]
  | tup cs => cases cs with
    | nil => exact hl
    | cons c cs => simp only [maskC,LRep]
theorem maskCs_diag {ρ : Rho} {h : Hp} {lo : Nat} {j : List (Nat × Nat)} (hj : ∀ q∈j,q.1=q.2) {one : Bool} : ∀ {ls : List LV} {xs : List Value},LReps w ok ρ h one ls xs→LReps w ok ρ h one (maskCs lo j ls) xs
  | [],xs,hl => hl
  | l :: ls, xs, hl => by
    simp only [LReps] at hl
    obtain ⟨v,r,rfl,h1,h2,h3⟩:=hl
    simp only [maskCs,LReps]
    exact ⟨v,r,rfl,h1,maskC_diag hj h2,maskCs_diag hj h3⟩
theorem mask2_diag {ρ : Rho} {h : Hp} {lo : Nat} {j : List (Nat × Nat)} (hj : ∀ q∈j,q.1=q.2) {one : Bool} : ∀ {ls : List LV} {xs : List Value},LReps w ok ρ h one ls xs→LReps w ok ρ h one (mask2 lo j ls) xs
  | [],xs,hl => hl
  | l :: ls, xs, hl => by
    simp only [LReps] at hl
    obtain ⟨v,r,rfl,h1,h2,h3⟩:=hl
    have ih:=mask2_diag (lo:=lo) hj h3
    by_cases ha : ∃ cs,l=.agg cs
    · obtain ⟨cs, rfl⟩ := ha
      simp only [LRep] at h2
      obtain ⟨vs,k1,k2⟩:=h2
      simp only [mask2,LReps]
      exact ⟨v,r,rfl,h1,by simp only [LRep]; exact ⟨vs,k1,maskCs_diag hj k2⟩,ih⟩
    · have e : mask2 lo j (l :: ls)=maskC lo j l :: mask2 lo j ls:=by
        cases l with
        | agg cs => exact absurd ⟨cs,rfl⟩ ha
        | _ => rfl
      rw [e]
      simp only [LReps]
      exact ⟨v,r,rfl,h1,maskC_diag hj h2,ih⟩
theorem maskL_diag {ρ : Rho} {h : Hp} {lo : Nat} {j : List (Nat × Nat)} (hj : ∀ q∈j,q.1=q.2) {l : LV} {x : Value} (hl : LRep w ok ρ h l x) : LRep w ok ρ h (maskL lo j l) x:=by
  unfold maskL
  split
  · simp only [LRep] at hl ⊢
    obtain ⟨vs,k1,k2⟩:=hl
    exact ⟨vs,k1,maskCs_diag hj k2⟩
  · simp only [LRep] at hl ⊢
    obtain ⟨vs,k1,k2⟩:=hl
    exact ⟨vs,k1,maskCs_diag hj k2⟩
  · simp only [LRep] at hl ⊢
    obtain ⟨vs,k1,k2⟩:=hl
    exact ⟨vs,k1,mask2_diag hj k2⟩
  · exact maskC_diag hj hl

end
def Stable (N : Rm) (lo : Nat) (A B : List (Nat × GC)) : Prop:=(∀ id k,(look id A).ok=true→maskL lo (look id A).ids (N.gh k).1=(N.gh k).1)∧∀ id k,(look id B).ok=true→maskL lo (look id B).ids (N.gh k).1=(N.gh k).1
def RgOk (n : Sl) (rd : Option Nat) (N : Rm) (lo : Nat) : Prop:=n.rg=true→rd=none∧∀ k,maskL lo [] (N.gh k).1=(N.gh k).1

theorem marks_none {N0 N : Rm} {D : Nat} : ∀ {ds : List Deferred},marksOk N0 N ds→{ target:=.collected D,args:=#[] }∈ds→N0.res D=none
  | [],_,hm => by simp at hm
  | d :: ds, h, hm => by
    obtain ⟨⟨E,rfl,h1,h2,h3⟩,h4⟩:=h
    rcases List.mem_cons.1 hm with e | hm
    · cases e; exact h1
    · exact marks_none h4 hm
theorem Ext.turn {N1 N3 : Rm} {l : Nat} {o o1 : Obj} (h1 : N1.res l=some o) (e : Ext (N1.with l o1) N3) : Ext N1 (N3.with l o):=by
  obtain ⟨ms,k1,k2⟩:=e.ds
  refine ⟨e.n,e.K,e.T,e.gh,fun b x hb => ?_,ms,k1,?_⟩
  · by_cases hbl : b = l
    · subst hbl; rw [with_at,← hb,h1]
    · rw [with_ne _ _ hbl]; exact e.res b x (by rw [with_ne _ _ hbl]; exact hb)
  · refine marks_with (marks_down (fun b hb => ?_) k2) fun d hd e' => ?_
    · by_cases hbl : b = l
      · subst hbl; rw [with_at] at hb; cases hb
      · rw [with_ne _ _ hbl] at hb; exact hb
    · subst e'
      have:=marks_none k2 hd
      rw [with_at] at this
      cases this

section
variable {P : Program} {C : Cs} {N N' : Rm} {lo : Nat} {n : Sl} {A B : List (Nat × GC)} {rd : Option Nat}
theorem Ext.good (e : Ext N N') (h : GoodAt P C N lo) : GoodAt P C N' lo:=by
  refine ⟨h.1,fun f lo' hp args r hc k => by rw [e.gh]; exact h.2.1 f lo' hp args r hc k,fun R hR => ?_⟩
  obtain ⟨l,r,n,A,B,h1,h2,h3⟩:=h.2.2 R hR
  refine ⟨l,r,n,A,B,by rw [e.T]; exact h1,e.res _ _ h2,?_⟩
  rw [e.gh]
  exact h3
theorem Ext.le (e : Ext N N') (h : n.le N) : n.le N':=by
  refine ⟨by rw [e.n]; exact h.1,fun d hd => ?_,fun d hd => by rw [e.K]; exact h.2.2 d hd⟩
  have:=h.2.1 d hd
  exact ⟨by rw [e.n]; exact this.1,by rw [e.K]; exact this.2⟩
theorem Ext.stable (e : Ext N N') (h : Stable N lo A B) : Stable N' lo A B:=by
  unfold Stable
  rw [e.gh]
  exact h
theorem Ext.rg (e : Ext N N') (h : RgOk n rd N lo) : RgOk n rd N' lo:=by
  unfold RgOk
  rw [e.gh]
  exact h
end
end Go.Proofs.Ytcecojdeljbjoaa.Sx
namespace Go.Proofs.Ytcecojdeljbjoaa.Sx
open Go Go.RowKit

theorem least {p : Nat→Prop} (h : ∃ k,p k) : ∃ k,p k∧∀ j < k,¬ p j:=by
  obtain ⟨k,hk⟩:=h
  induction k using Nat.strongRecOn with
  | _ k ih =>
    by_cases h : ∃ j < k,p j
    · obtain ⟨j, hj, hp⟩ := h
      exact ih j hj hp
    · exact ⟨k,hk,fun j hj hp => h ⟨j,hj,hp⟩⟩

open Classical in
noncomputable def leastOf (p : Nat→Prop) : Nat:=if h : ∃ k,p k then (least h).choose else 0
theorem leastOf_spec {p : Nat→Prop} (h : ∃ k,p k) : p (leastOf p):=by
  unfold leastOf; rw [dif_pos h]; exact (least h).choose_spec.1
theorem leastOf_le {p : Nat→Prop} {k : Nat} (h : p k) : leastOf p≤k:=by
  have he : ∃ k,p k:=⟨k,h⟩
  unfold leastOf; rw [dif_pos he]
  rcases Nat.lt_or_ge k (least he).choose with h' | h'
  · exact absurd h ((least he).choose_spec.2 k h')
  · exact h'

theorem wp_loop_fuel {P : Program} {rd : Option Nat} {c : Code} {Q : Exit→Act→World→Prop} (J : Nat→Act→World→Prop) {k : Nat} {a : Act} {w : World} (h : J k a w)
    (round : ∀ k a w,J k a w→c.wpIn (FR rd) 0 P (Exit.then (fun a' w' => ∃ k',k' < k∧J k' a' w') Q) a w) : (Code.loop c).wpIn (FR rd) 0 P Q a w:=by
  refine wpIn_loop (fun a w => ∃ k,J k a w) (fun a w => leastOf fun k => J k a w) ⟨k,h⟩ fun a w hI => ?_
  refine wpIn_mono (round _ a w (leastOf_spec hI)) fun e a' w' hq => ?_
  cases e with
  | normal =>
    obtain ⟨k',hlt,hJ⟩:=hq
    exact ⟨⟨k',hJ⟩,Nat.lt_of_le_of_lt (leastOf_le hJ) hlt⟩
  | _ => exact hq

theorem stepR_scope {P : Program} {b : Frame} {a : Act} {k : List Go.Item} {cs : List Frame} {w : World} {c : Code} : step P (lone (b.atR a (.code (.scope c) :: k)) cs w)=.next (lone (b.atR a (.code c :: .inScope c :: k)) cs w) :=
  step_lone_go (by simp [stepG,stepG.exec,Frame.atR])
theorem stepR_inScope {P : Program} {b : Frame} {a : Act} {k : List Go.Item} {cs : List Frame} {w : World} {c : Code} : step P (lone (b.atR a (.inScope c :: k)) cs w)=.next (lone (b.atR a k) cs w) :=
  step_lone_go (by simp [stepG,stepG.exec,Frame.atR])
theorem wpIn_scope_straight {F : Fence} {n : Nat} {P : Program} {Q : Exit→Act→World→Prop} {a : Act} {w : World} {c : Code} (h : c.wpIn F n P (Exit.noGoto Q) a w) : (Code.scope c).wpIn F n P Q a w:=by
  intro b k cs hro hb hr
  have h0 : (lone (b.atR a (.code (.scope c) :: k)) cs w).fenced P F:=fenced_calm hb hr rfl
  obtain ⟨e,a₁,w₁,hq,harr⟩:=h b (.inScope c :: k) cs hro hb hr
  cases e with
  | normal => exact ⟨.normal,a₁,w₁,hq,.head h0 stepR_scope (StepsIn.trans harr (.one (fenced_calm hb hr rfl) stepR_inScope))⟩
  | exit id =>
    have hx : exitTo id (.inScope c :: k)=exitTo id k:=by simp [exitTo]
    exact ⟨_,a₁,w₁,hq,fun k' hk => .head h0 stepR_scope (harr.1 k' (by rw [hx]; exact hk)),
      fun hr' hk => let ⟨k₁,h1,h2⟩:=harr.2 hr' (by rw [hx]; exact hk); ⟨k₁,h1,.head h0 stepR_scope h2⟩⟩
  | goto l => exact hq.elim
  | ret => exact ⟨_,a₁,w₁,hq,.of_steps (.one h0 stepR_scope) harr⟩
  | panic ch => exact ⟨_,a₁,w₁,hq,.of_steps (.one h0 stepR_scope) harr⟩
  | outgrown => exact ⟨_,a₁,w₁,hq,.of_steps (.one h0 stepR_scope) harr⟩

def toExit : Ex→Exit
  | .norm => .normal
  | .exit id => .exit id
  | .ret => .ret

def Out (N : Rm) (w0 : World) (ok0 : Nat→Prop) (r : Ex × St) (Q : Exit→Act→World→Prop) : Prop:=∀ N' ok ρ a w,Ext N N'→Gam N' w0 ok0 r.2 ok ρ a w→Q (toExit r.1) a w

section
variable {P : Program} {rd : Option Nat} {C : Cs} {N : Rm} {w0 : World} {ok0 : Nat→Prop} {lo : Nat} {n : Sl} {A B : List (Nat × GC)}

theorem regK_some {g : GC} {x : Option St} {r : Ex × St} (h : regK lo g x=some r) : ∃ st,x=some st∧r=(.norm,g.run lo st):=by
  cases x with
  | none => cases h
  | some st => exact ⟨st,rfl,(Option.some.inj h).symm⟩
theorem ev_bad {m : Nat} {st : St} {r : Ex × St} (h : ev C lo m .bad st=some r) : False:=by cases m<;>cases h
theorem orBad_ok {b : Bool} {c : ICode} {m : Nat} {st : St} {r : Ex × St} (h : ev C lo m (orBad b c) st=some r) : b=true∧ev C lo m c st=some r:=by
  unfold orBad at h
  split at h
  · exact ⟨by assumption,h⟩
  · exact (ev_bad h).elim

def CodeOk (P : Program) (m : Nat) : Prop:=∀ {rd : Option Nat} {C : Cs} {N : Rm} {w0 : World} {ok0 : Nat→Prop} {lo : Nat} {n : Sl} {A B : List (Nat × GC)},GoodAt P C N lo→n.le N→Stable N lo A B→RgOk n rd N lo →
  ∀ (c : Code) {st : St} {r : Ex × St} {ok : Nat→Prop} {ρ : Rho} {a : Act} {w : World} {Q : Exit→Act→World→Prop},
    ev C lo m (cCode P n A B c) st=some r→Gam N w0 ok0 st ok ρ a w→Out N w0 ok0 r Q→c.wpIn (FR rd) 0 P Q a w

theorem round_ok {m : Nat} (IH : ∀ k,k < m→CodeOk P k) (hC : Good P C) (hCi : ∀ f lo h args,C.i f lo h args=none) (hy : C.y=none) (hnN : n.le N) (hst : Stable N lo A B) (hrg : n.rg=false) {l : Nat} {f : FuncId} {rd0 : Option Nat} {tmps : Array Value} {assign body : Code} {r : Loop} {st st2 : St}
    (hr : N.res l=some (.loop r)) (hready : r.state=.ready) (hpend : r.pending=none)
    (hev : ev C lo m (.seq (cCode P n A B assign) (cCode P n A B body)) st=some (.norm,st2)) {ok : Nat→Prop} {ρ : Rho} {w : World}
    (g : Gam N w0 ok0 st ok ρ { tmps:=tmps,defers:=[] } w) (R : Ending→World→Prop)
    (hR : ∀ N' ok' ρ' a' w',Ext N N'→Gam N' w0 ok0 st2 ok' ρ' a' w'→R (.returned (.bool true)) w') : RoundIn (FR rd0) 0 P l f tmps assign body w R:=by
  have good : ∀ N : Rm,GoodAt P C N lo:=fun N => ⟨hC,fun f lo' h args r hc => (by rw [hCi] at hc; cases hc),fun R hR => (by rw [hy] at hR; cases hR)⟩
  have rg : ∀ (rd : Option Nat) (N : Rm),RgOk n rd N lo:=fun rd N h => by rw [hrg] at h; cases h
  cases m with
  | zero => cases hev
  | succ m =>
    simp only [ev] at hev
    rcases seqK_some.1 hev with ⟨st1,h1,h2⟩ | ⟨_,h2⟩
    · refine roundIn_of_wpIn trivial ?_
      refine IH m (Nat.lt_succ_self _) (rd:=some l) (good N) hnN hst (rg _ _) assign h1 g fun N1 ok1 ρ1 a1 w1 e1 g1 => ?_
      show ∃ w2,_
      have hr1:=e1.res _ _ hr
      have hl1:=(g1.res l _ hr1).2.1
      refine ⟨_,run_beginRound hl1 hready,?_⟩
      have g2:=g1.reput hr1 (.loop { r with state:=.busy })
      have hnN2 : n.le (N1.with l (.loop { r with state:=.busy })):=e1.le hnN
      have hst2 : Stable (N1.with l (.loop { r with state:=.busy })) lo A B:=e1.stable hst
      refine IH m (Nat.lt_succ_self _) (rd:=some l) (good _) hnN2 hst2 (rg _ _) body h2 g2 fun N3 ok3 ρ3 a3 w3 e3 g3 => ?_
      have hr3:=e3.res _ _ (with_at _ _ _)
      have hl3:=(g3.res l _ hr3).2.1
      refine ⟨_,_,run_endRound none hl3,?_⟩
      have g4:=g3.reput hr3 (.loop { r with state:=.ready,pending:=none })
      have er : ({ r with state:=.ready,pending:=none } : Loop)=r:=by rw [← hready,← hpend]
      rw [er] at g4
      have k:=hR _ _ _ _ _ (e1.trans (e3.turn hr1)) g4
      rw [← er] at k
      exact k
    · exact absurd rfl h2

theorem Good.unring (h : Good P C) : Good P C.unring:=⟨h.1,fun f lo h args l h' hc => (by cases hc),h.2.2⟩
theorem Good.ring (h : Good P C) (R : Rnd) : Good P (C.ring R):=⟨h.1,fun f lo h args l h' hc => (by cases hc),h.2.2⟩
theorem yld_ok {m : Nat} (IH : ∀ k,k < m→CodeOk P k) (hC : GoodAt P C N lo) (hnN : n.le N) {gc : GC} {ops : Array Oper} {o1 o2 o3 : Oper} {c : ICode} (hops : ops.toList=[o1,o2,o3]) (hc : yld3 P n ops gc o1 o2 o3=some c)
    {st : St} {r : Ex × St} (hev : ev C lo m c st=some r) (hgc : gc.ok=true) (hstk : ∀ k,maskL lo gc.ids (N.gh k).1=(N.gh k).1) {ok : Nat→Prop} {ρ : Rho} {a : Act} {w : World} {Q : Exit→Act→World→Prop}
    (g : Gam N w0 ok0 st ok ρ a w) (hq : Out N w0 ok0 r Q) : wpOpsIn (FR rd) 0 P ops Q (List.range ops.size) a w:=by
  unfold yld3 at hc
  split at hc
  · rename_i s d cl hd1 ho1 hg1 hd3 ho3 hg3
    split at hc
    · rename_i b y x hcal hargs hx
      split at hc
      · rename_i hb
        obtain rfl:=Option.some.inj hc
        simp only [Bool.and_eq_true,beq_iff_eq] at hb
        obtain ⟨⟨⟨⟨⟨rfl,ha⟩,hd⟩,hp0⟩,_⟩,_⟩:=hb
        have e : ops=#[o1,o2,o3]:=by apply Array.ext'; exact hops
        cases m with
        | zero => cases hev
        | succ m =>
          simp only [ev] at hev
          cases hR : C.y with
          | none => rw [hR] at hev; cases hev
          | some R =>
            cases hop : evOps C lo [cOper P ⟨n.n,b :: n.pr,[],false⟩ ops o2] (some (st.set b .u)) with
            | none => rw [hR,hop] at hev; cases hev
            | some st1 =>
              rw [hR,hop] at hev
              simp only [yldK] at hev
              obtain ⟨l,rr,nR,AR,BR,q1,q2,q3,q4,q5,q6,q7,q8,q9,q10,q11,q12,q13⟩:=hC.2.2 R hR
              have hNa:=hnN.2.1 _ ha
              have hNd:=hnN.2.1 _ hd
              have hK0:=hnN.2.2 0 hp0
              have hb0 : (0 : Nat)≠b:=fun e0 => by subst e0; rw [hNa.2] at hK0; cases hK0
              have hv0 : a.eval (.tmp 0)=.func (.yield l) #[] #[]:=(g.kept 0 hK0).trans q1
              rw [e]
              show (if Region.wanted o1 _ then _ else _)
              rw [if_pos (by simp [Region.wanted,hg1])]
              have hrun1 : (execOp a.eval o1).run P w=.ok (.value (a.eval (.tmp 0))) w:=by simp [execOp,ho1]
              rw [hv0] at hrun1
              refine wp_val hrun1 ?_
              show wpOpsIn (FR rd) 0 P #[o1,o2,o3] Q [1,2] (a.put o1.dst (.func (.yield l) #[] #[])) w
              rw [hd1]
              have g1:=g.put (d:=b) hNa (l:=.u) (v:=.func (.yield l) #[] #[]) (by simp only [LRep])
              have hts : (a.put (some b) (.func (.yield l) #[] #[])).tmps.getD b undef=.func (.yield l) #[] #[]:=by rw [put_getD _ _ _ _ (by rw [g.size]; exact hNa.1),if_pos rfl]
              obtain ⟨N2,hN2⟩ : ∃ N2 : Rm,N2={ N with K:=upd N.K b true,T:=upd N.T b (.func (.yield l) #[] #[]) }:=⟨_,rfl⟩
              have g2 : Gam N2 w0 ok0 (st.set b .u) ok ρ (a.put (some b) (.func (.yield l) #[] #[])) w:=by
                subst hN2
                refine g1.less rfl rfl (fun k hk => ?_) g1.gh fun _ _ h => h
                by_cases ek : k=b
                · subst ek; rw [hts]; exact (upd_same _ _ _).symm
                · simp only [upd_ne _ _ ek] at hk ⊢
                  exact g1.kept k hk
              have hC2 : GoodAt P C N2 lo:=by
                subst hN2
                refine ⟨hC.1,hC.2.1,fun R' hR' => ?_⟩
                obtain ⟨l',r',n',A',B',k1,k2⟩:=hC.2.2 R' hR'
                exact ⟨l',r',n',A',B',(upd_ne _ _ hb0).trans k1,k2⟩
              have hn2 : Sl.le ⟨n.n,b :: n.pr,[],false⟩ N2:=by
                subst hN2
                refine ⟨hnN.1,fun k hk => ?_,fun k hk => ?_⟩
                · simp only [Sl.may, Bool.and_eq_true, decide_eq_true_eq, Bool.not_eq_true', List.contains_cons, Bool.or_eq_false_iff] at hk
                  have:=hnN.2.1 k (by simp only [Sl.may,Bool.and_eq_true,decide_eq_true_eq,Bool.not_eq_true']; exact ⟨hk.1,hk.2.2⟩)
                  have ek : k≠b:=by simpa using hk.2.1
                  exact ⟨this.1,(upd_ne _ _ ek).trans this.2⟩
                · by_cases ek : k = b
                  · subst ek; exact upd_same _ _ _
                  · refine (upd_ne _ _ ek).trans (hnN.2.2 k ?_)
                    simp only [List.contains_cons,Bool.or_eq_true,beq_iff_eq] at hk
                    exact hk.resolve_left ek
              simp only [evOps] at hop
              have hop' : evOper C lo (st.set b .u) (cOper P ⟨n.n,b :: n.pr,[],false⟩ #[o1,o2,o3] o2)=some st1:=by
                rw [← e]
                cases hz : evOper C lo (st.set b .u) (cOper P ⟨n.n,b :: n.pr,[],false⟩ ops o2) with
                | none => rw [hz] at hop; cases hop
                | some z => rw [hz] at hop; exact hop
              refine oper_ok (next:=wpOpsIn (FR rd) 0 P #[o1,o2,o3] Q [2]) hC2 g2 hn2 hop' fun ok2 ρ2 a2 w2 g3 => ?_
              show (if Region.wanted o3 (yielded #[o1,o2,o3] a2.tmps) then o3.wpIn (FR rd) 0 P a2 w2 (wpOpsIn (FR rd) 0 P #[o1,o2,o3] Q []) Q else _)
              rw [if_pos (by simp [Region.wanted,hg3])]
              have hgh : N2.gh=N.gh:=by subst hN2; rfl
              have hres : N2.res=N.res:=by subst hN2; rfl
              have hds : N2.ds=N.ds:=by subst hN2; rfl
              have hnn : N2.n=N.n:=by subst hN2; rfl
              have hvb : a2.eval (.tmp b)=.func (.yield l) #[] #[]:=by
                refine (g3.kept b (by subst hN2; exact upd_same _ _ _)).trans ?_
                subst hN2; exact upd_same _ _ _
              have hl2:=(g3.res l _ (by rw [hres]; exact q2)).2.1
              have hxv:=rd_ok g3 hx
              obtain ⟨xo,hxo⟩ : ∃ xo,cl.args=#[xo]:=⟨_,by apply Array.ext'; exact hargs⟩
              rw [hxo] at hxv
              simp only [show (#[xo] : Array Operand).getD 0 (.tmp 0)=xo from rfl] at hxv
              obtain ⟨xb,hxb⟩ : ∃ xb,xb=Operand.tmp b:=⟨_,rfl⟩
              rw [← hxb] at hvb hcal
              have hrun3 : (execOp a2.eval o3).run P w2=.ok (.round l rr.fn (rr.tmps.setIfInBounds R.p (a2.eval xo)) rr.assign rr.body) w2:=by
                have hy:=run_yield (P:=P) (args:=#[a2.eval xo]) hl2 (by simp [q5])
                simp only [q5] at hy
                simp [execOp,ho3,resolve,Deferred.ofValue,hcal,hvb,hxo,invoke,hy]
              refine ⟨fun _ _ => trivial,?_⟩
              rw [sem_at hrun3 (fun d e => by cases e),Oper.uponIn_round]
              refine ⟨fun h => by simp [FR,Fence.wide] at h,?_⟩
              cases hrn : ev C.unring R.lo m R.bd ⟨upd R.env R.p (x.rd st1.env),st1.hp⟩ with
              | none => rw [hrn] at hev; cases hev
              | some z =>
                obtain ⟨ez,st3⟩:=z
                rw [hrn] at hev
                cases ez with
                | exit i => cases hev
                | ret => cases hev
                | norm =>
                  simp only [yldD,Option.some.injEq] at hev
                  subst hev
                  rw [q6] at hrn
                  have hpl : R.p < rr.tmps.size:=by
                    have : R.p < nR.n:=by simp only [Sl.may,Bool.and_eq_true,decide_eq_true_eq] at q9; exact q9.1
                    omega
                  obtain ⟨M,hM⟩ : ∃ M : Rm,M=⟨rr.tmps.size,nR.pr.contains,fun s => (rr.tmps.setIfInBounds R.p (a2.eval xo)).getD s undef,ghosts (fun k => maskL R.lo R.ks (st1.env k)) a2 N.gh,N.res,[]⟩:=⟨_,rfl⟩
                  have g4 : Gam M w0 ok0 ⟨upd R.env R.p (x.rd st1.env),st1.hp⟩ ok2 ρ2 { tmps:=rr.tmps.setIfInBounds R.p (a2.eval xo),defers:=[] } w2:=by
                    subst hM
                    refine g3.frame (by simp) rfl (fun _ _ => rfl) (fun k => ?_) (fun k => ?_) (fun c o h => by rw [hres]; exact h)
                    · show LRep w2 ok2 ρ2 st1.hp (ghosts (fun k => maskL R.lo R.ks (st1.env k)) a2 N.gh k).1 (ghosts (fun k => maskL R.lo R.ks (st1.env k)) a2 N.gh k).2
                      unfold ghosts
                      split
                      · exact maskL_diag q13 (g3.env _)
                      · rw [← hgh]; exact g3.gh _
                    · show LRep w2 ok2 ρ2 st1.hp (upd R.env R.p (x.rd st1.env) k) ((rr.tmps.setIfInBounds R.p (a2.eval xo)).getD k undef)
                      simp only [upd,Array.getD_eq_getD_getElem?,Array.getElem?_setIfInBounds]
                      by_cases ek : k=R.p
                      · subst ek; simp only [if_pos,hpl]; exact hxv
                      · rw [if_neg ek, if_neg (fun e' => ek e'.symm)]
                        obtain ⟨j,hj⟩:=q10 k
                        have:=g3.gh j
                        rw [hgh,hj] at this
                        simpa [Array.getD_eq_getD_getElem?] using this
                  have hnM : nR.le M:=by
                    subst hM
                    refine ⟨q8,fun k hk => ?_,fun k hk => hk⟩
                    simp only [Sl.may,Bool.and_eq_true,decide_eq_true_eq,Bool.not_eq_true'] at hk
                    exact ⟨Nat.lt_of_lt_of_le hk.1 q8,hk.2⟩
                  have hstM : Stable M R.lo AR BR:=by
                    subst hM
                    refine ⟨fun id k hok => ?_,fun id k hok => ?_⟩
                    · show maskL R.lo _ (ghosts (fun k => maskL R.lo R.ks (st1.env k)) a2 N.gh k).1 = (ghosts (fun k => maskL R.lo R.ks (st1.env k)) a2 N.gh k).1
                      unfold ghosts
                      split
                      · exact q12.1 _ _ hok
                      · exact q11.1 _ _ hok
                    · show maskL R.lo _ (ghosts (fun k => maskL R.lo R.ks (st1.env k)) a2 N.gh k).1 = (ghosts (fun k => maskL R.lo R.ks (st1.env k)) a2 N.gh k).1
                      unfold ghosts
                      split
                      · exact q12.2 _ _ hok
                      · exact q11.2 _ _ hok
                  refine round_ok (fun k hk => IH k (Nat.lt_succ_of_lt hk)) hC.1.unring (fun _ _ _ _ => rfl) rfl hnM hstM q7 (by subst hM; exact q2) q3 q4 hrn g4 _ fun N' ok' ρ' a' w' e' g' => ?_
                  show Q .normal (a2.put o3.dst (.bool true)) w'
                  rw [hd3]
                  have hMgh : ∀ k,N'.gh k=ghosts (fun k => maskL R.lo R.ks (st1.env k)) a2 N.gh k:=fun k => by rw [e'.gh]; subst hM; rfl
                  have g5 : Gam { N with res:=N'.res } w0 ok0 ⟨fun k => maskL R.lo R.ks (st1.env k),st3.hp⟩ ok' ρ' a2 w':=by
                    refine g'.frame (by rw [g3.size,hnn]) (by rw [g3.defers,hds]) (fun k hk => ?_) (fun k => ?_) (fun k => ?_) (fun c o h => h)
                    · have hkb : k ≠ b := fun ek => by subst ek; rw [hNa.2] at hk; cases hk
                      have:=g3.kept k (by subst hN2; exact (upd_ne _ _ hkb).trans hk)
                      refine this.trans ?_
                      subst hN2
                      exact upd_ne _ _ hkb
                    · have := g'.gh (2 * k + 1)
                      rw [hMgh,ghosts_gh] at this
                      exact this
                    · have := g'.gh (2 * k)
                      rw [hMgh,ghosts_env] at this
                      exact this
                  have ex : Ext N { N with res:=N'.res }:=⟨rfl,rfl,rfl,rfl,fun c o h => e'.res c o (by subst hM; exact h),[],rfl,trivial⟩
                  have g6:=g5.put (d:=d) hNd (l:=.v (.bool true)) (v:=.bool true) (by simp only [LRep,TRep])
                  exact hq _ _ _ _ _ ex (g6.gc hgc hstk)
      · cases hc
    · cases hc
  · cases hc

theorem itF_some {l : LV} {ic : ICode} {caps : List LV} (h : itF C l=some (ic,caps)) {w : World} {ok : Nat→Prop} {ρ : Rho} {hp : Hp} {v : Value} (hv : LRep w ok ρ hp l v) :
    ∃ f cs,v=.func (.func f) #[] cs∧C.it f=some ic∧LReps w ok ρ hp false caps cs.toList:=by
  have key : ∀ {f : FuncId} {cp : List LV},itC cp (C.it f)=some (ic,caps)→C.it f=some ic∧cp=caps:=by
    intro f cp h
    unfold itC at h
    split at h
    · rename_i c hc
      simp only [Option.some.injEq,Prod.mk.injEq] at h
      exact ⟨by rw [hc,h.1],h.2⟩
    · cases h
  unfold itF at h
  split at h
  · obtain ⟨k1, rfl⟩ := key h
    simp only [LRep] at hv
    obtain ⟨cs,e1,e2⟩:=hv
    exact ⟨_,cs,e1,k1,e2⟩
  · obtain ⟨k1, rfl⟩ := key h
    simp only [LRep,TRep] at hv
    obtain ⟨cs,e1,e2⟩:=hv
    exact ⟨_,cs,e1,k1,liftV_lreps e2⟩
  · cases h
theorem keepEnv_is {lo : Nat} {j : List (Nat × Nat)} {e : Nat→LV} (k : Nat) : ∀ sl : List Nat,keepEnv lo j e sl k=maskL lo j (e k)∨keepEnv lo j e sl k=.u
  | [] => .inr rfl
  | x :: xs => by
    simp only [keepEnv,upd]
    split
    · rename_i e'; subst e'; exact .inl rfl
    · exact keepEnv_is k xs

theorem rng_ok {m : Nat} (IH : CodeOk P m) (hC : GoodAt P C N lo) (hnN : n.le N) (hlow : ∀ k,maskL lo [] (N.gh k).1=(N.gh k).1) {x : Operand} {ps : Array Tmp} {ac bd : Code} {y : X} {p : Nat} {gc : GC}
    (hx : cX P 0 x=some y) (hps : ps.toList=[p]) (hrok : rngOk gc=true) (hp : n.may p=true) {st : St} {r : Ex × St} {ok : Nat→Prop} {ρ : Rho} {a : Act} {w : World} {Q : Exit→Act→World→Prop}
    (h : ev C lo (m+1) (.rng y p (cCode P n.inner (addKs (ksOf gc) A) (addKs (ksOf gc) B) ac) (cCode P n.inner (addKs (ksOf gc) A) (addKs (ksOf gc) B) bd) gc (ksOf gc)) st=some r)
    (g : Gam N w0 ok0 st ok ρ a w) (hq : Out N w0 ok0 r Q) : (Code.rangeFunc x ps ac bd).wpIn (FR none) 0 P Q a w:=by
  simp only [ev] at h
  simp only [rngOk,Bool.and_eq_true] at hrok
  have g1:=g.gc (lo:=lo) hrok.1 fun k => low_fix (Nat.le_refl _) (hlow k) _
  obtain ⟨st1,hst1⟩ : ∃ st1,st1=gc.run lo st:=⟨_,rfl⟩
  rw [← hst1] at h g1
  have hv:=rd_ok g1 hx
  cases hit : itF C (y.rd st1.env) with
  | none => rw [hit] at h; cases h
  | some q =>
    obtain ⟨ic,caps⟩:=q
    rw [hit] at h
    simp only [rngK] at h
    obtain ⟨f,cs,hax,hfit,hcaps⟩:=itF_some hit hv
    obtain ⟨fn,c0,A',B',k1,k2,k3,k4,k5⟩:=hC.1.2.2 f ic hfit
    simp only [cFn,k3] at k4
    subst k4
    obtain ⟨R,hR⟩ : ∃ R : Rnd,R=⟨.seq (cCode P n.inner (addKs (ksOf gc) A) (addKs (ksOf gc) B) ac) (cCode P n.inner (addKs (ksOf gc) A) (addKs (ksOf gc) B) bd),p,st1.env,lo,ksOf gc⟩:=⟨_,rfl⟩
    rw [← hR] at h
    cases hrun : ev (C.ring R) (lo+1000000) m (orBad (fn.results.toList.all (resOk P)) (cCode P ⟨fn.ntmps,(look 1000003 A').slots,(look 1000000 A').slots,true⟩ A' B' c0)) ⟨bindL 1 caps,st1.hp⟩ with
    | none => rw [hrun] at h; cases h
    | some z =>
    obtain ⟨ez,st2⟩:=z
    rw [hrun] at h
    have hr : (ez=.norm∨ez=.ret)∧r=(.norm,⟨st1.env,keepHp (lo+1000000) [] st2.hp []⟩):=by
      cases ez with
      | norm => exact ⟨.inl rfl,(Option.some.inj h).symm⟩
      | ret => exact ⟨.inr rfl,(Option.some.inj h).symm⟩
      | exit i => cases h
    obtain ⟨hez,rfl⟩:=hr
    obtain ⟨hres,hrun⟩:=orBad_ok hrun
    have hnum : fn.name≠"runtime.NumGoroutine":=by simpa using k2
    have hlowE : ∀ k,∃ l,st1.env k=maskL lo gc.ids l:=fun k => by
      rw [hst1]
      rcases keepEnv_is (lo:=lo) (j:=gc.ids) (e:=st.env) k gc.slots with e | e
      · exact ⟨_,e⟩
      · exact ⟨.u,e⟩
    refine wpIn_rangeFunc fun fnid _ => ?_
    obtain ⟨r0,hr0⟩ : ∃ r0 : Loop,r0={ state:=.ready,pending:=none,fn:=fnid,tmps:=a.tmps,params:=ps,assign:=ac,body:=bd,defers:=w.heap.size }:=⟨_,rfl⟩
    obtain ⟨w1,hw1⟩ : ∃ w1,w1=(w.alloc (.deferred (some []))).alloc (.loop r0):=⟨_,rfl⟩
    refine ⟨w.heap.size+1,[{ target:=.collected w.heap.size,args:=#[] }],w1,{ target:=.fn (.func f) cs,args:=#[.func (.yield (w.heap.size+1)) #[] #[]] },w1,f,
      #[.func (.yield (w.heap.size+1)) #[] #[]]++cs,w1,?_,?_,fun _ _ => trivial,?_,fun h => by simp [FR,Fence.wide] at h,?_⟩
    · rw [hw1,hr0]; exact run_enterLoop_outer _ _ _ _ _
    · simp only [resolve, hax]
      simp [go_sem]
    · simp [invoke,callFunc,k1,hnum,k3]
    · obtain ⟨tm, htm⟩ : ∃ tm : Array Value, tm = ((#[.func (.yield (w.heap.size + 1)) #[] #[]] : Array Value) ++ cs) ++ Array.replicate (fn.ntmps - ((#[.func (.yield (w.heap.size + 1)) #[] #[]] : Array Value) ++ cs).size) undef := ⟨_, rfl⟩
      refine callsIn_of_wp_marks k1 k3 trivial ?_
      rw [← htm]
      have g2:=(g1.reserve (.deferred (some []))).reserve (.loop r0)
      simp only [World.size_alloc] at g2
      rw [← hw1] at g2
      obtain ⟨N2,hN2⟩ : ∃ N2,N2=(N.with w.heap.size (.deferred (some []))).with (w.heap.size+1) (.loop r0):=⟨_,rfl⟩
      rw [← hN2] at g2
      have hND : N.res w.heap.size=none:=g1.res_none
      have r1 : N2.res (w.heap.size+1)=some (.loop r0):=by rw [hN2,with_at]
      have r2 : N2.res w.heap.size=some (.deferred (some [])):=by rw [hN2,with_ne _ _ (by omega),with_at]
      have r3 : ∀ b o,N.res b=some o→N2.res b=some o:=fun b o hb => by
        have hlt:=(Array.getElem?_eq_some_iff.1 (g1.res b o hb).2.1).1
        rw [hN2,with_ne _ _ (by omega),with_ne _ _ (by omega)]
        exact hb
      obtain ⟨M,hM⟩ : ∃ M : Rm,M=⟨tm.size,((look 1000003 A').slots).contains,fun s => tm.getD s undef,ghosts st1.env a N.gh,N2.res,[]⟩:=⟨_,rfl⟩
      have hMgh : ∀ k,M.gh k=ghosts st1.env a N.gh k:=fun k => by rw [hM]
      have hbw : Below w.heap.size w w1:=by rw [hw1]; exact ((Below.refl _ w).alloc (Nat.le_refl _) _).alloc (by simp) _
      have hsame : Same w w1 ok ok:=fun b hb => ⟨hbw.block b (g.free b hb).1,hb⟩
      have hsz : fn.ntmps≤tm.size:=by rw [htm]; simp; omega
      have g3 : Gam M w0 ok0 ⟨bindL 1 caps,st1.hp⟩ ok (keepRho lo ρ gc.ids) { tmps:=tm,defers:=[] } w1:=by
        rw [hM]
        refine g2.frame rfl rfl (fun _ _ => rfl) (fun k => ?_) (fun k => ?_) (fun c o h => h)
        · show LRep w1 ok (keepRho lo ρ gc.ids) st1.hp (ghosts st1.env a N.gh k).1 (ghosts st1.env a N.gh k).2
          unfold ghosts
          split
          · exact g2.env _
          · have := g2.gh (k / 2)
            rw [hN2] at this
            exact this
        · show LRep w1 ok (keepRho lo ρ gc.ids) st1.hp (bindL 1 caps k) (tm.getD k undef)
          rw [bindL_eq]
          split
          · rename_i h1
            cases hk : caps[k - 1]? with
            | none => simp only [LRep]
            | some t =>
              obtain ⟨v,q1,_,q3⟩:=hcaps.get _ t hk
              have hlt:=(List.getElem?_eq_some_iff.1 q1).1
              have e : tm.getD k undef=v:=by
                rw [htm,Array.getD_eq_getD_getElem?,Array.getElem?_append_left (by simp at hlt ⊢; omega),Array.getElem?_append_right (by simp; omega)]
                have e2 : cs[k - 1]?=some v:=by simpa using q1
                show (cs[k - 1]?).getD undef=v
                rw [e2]
                rfl
              simp only [e]
              exact q3.to hsame (Later.refl _ _)
          · simp only [LRep]
      have hT0 : M.T 0=.func (.yield (w.heap.size+1)) #[] #[]:=by
        rw [hM]
        show tm.getD 0 undef=_
        rw [htm,Array.getD_eq_getD_getElem?,Array.getElem?_append_left (by simp; omega),Array.getElem?_append_left (by simp)]
        rfl
      have hpa : ps=#[p]:=by apply Array.ext'; exact hps
      have hgA : ∀ k,maskL (lo+1000000) [] (M.gh k).1=(M.gh k).1:=fun k => by
        rw [hMgh]
        unfold ghosts
        split
        · obtain ⟨l, hl⟩ := hlowE (k / 2)
          show maskL _ _ (st1.env (k / 2))=st1.env (k / 2)
          rw [hl]
          exact keep_low (fun q hq => by have:=List.all_eq_true.1 hrok.2 q hq; exact of_decide_eq_true this) l
        · exact low_fix (by omega) (hlow _) _
      have hgR : ∀ {A : List (Nat × GC)} id k,(look id (addKs (ksOf gc) A)).ok=true→maskL lo (look id (addKs (ksOf gc) A)).ids (M.gh k).1=(M.gh k).1:=fun id k hok => by
        rw [hMgh]
        unfold ghosts
        split
        · obtain ⟨l, hl⟩ := hlowE (k / 2)
          show maskL _ _ (st1.env (k / 2))=st1.env (k / 2)
          rw [hl]
          exact keep_ks (ksOf_diag gc) (fun q hq => List.mem_cons_of_mem _ (List.mem_map.2 ⟨q,hq,rfl⟩)) hok l
        · exact low_fix (Nat.le_refl _) (hlow _) _
      have hkk : ∀ {A : List (Nat × GC)} id l,(look id (addKs (ksOf gc) A)).ok=true→maskL lo (look id (addKs (ksOf gc) A)).ids (maskL lo (ksOf gc) l)=maskL lo (ksOf gc) l:=fun id l hok =>
        keep_ks (ksOf_diag gc) (fun q hq => by have:=ksOf_diag gc q hq; rw [← this]; have e : q=(q.1,q.1):=Prod.ext rfl this.symm; rw [← e]; exact hq) hok l
      have hCM : GoodAt P (C.ring R) M (lo+1000000):=by
        refine ⟨hC.1.ring R,fun f lo' hp args r hc => (by cases hc),fun R' hR' => ?_⟩
        obtain rfl : R=R':=Option.some.inj hR'
        refine ⟨w.heap.size+1,r0,n.inner,addKs (ksOf gc) A,addKs (ksOf gc) B,hT0,by rw [hM]; exact r1,by rw [hr0],by rw [hr0],by rw [hr0,hR]; exact hpa,by rw [hR,hr0],rfl,?_,by rw [hR]; exact hp,fun k => ⟨2 * k,?_⟩,⟨?_,?_⟩,⟨?_,?_⟩,?_⟩
        · rw [hr0]
          show n.n≤a.tmps.size
          rw [g.size]
          exact hnN.1
        · rw [hMgh,ghosts_env,hR,hr0]
        · rw [hR]; exact hgR
        · rw [hR]; exact hgR
        · rw [hR]; exact hkk
        · rw [hR]; exact hkk
        · rw [hR]; exact ksOf_diag gc
      have hnM : Sl.le ⟨fn.ntmps,(look 1000003 A').slots,(look 1000000 A').slots,true⟩ M:=by
        rw [hM]
        refine ⟨hsz,fun d hd => ?_,fun d hd => hd⟩
        simp only [Sl.may,Bool.and_eq_true,decide_eq_true_eq,Bool.not_eq_true'] at hd
        exact ⟨Nat.lt_of_lt_of_le hd.1 hsz,hd.2⟩
      have hstM : Stable M (lo+1000000) A' B':=⟨fun id k _ => low_fix (Nat.le_refl _) (hgA k) _,fun id k _ => low_fix (Nat.le_refl _) (hgA k) _⟩
      refine IH hCM hnM hstM (fun _ => ⟨rfl,hgA⟩) c0 hrun g3 fun N' ok' ρ' a' w' e' g' => ?_
      have hend : LeavesInM (FR none) 0 P fn a'.tmps (rangePost (FR none) 0 P (w.heap.size+1) Q { a with defers:=[{ target:=.collected w.heap.size,args:=#[] }]++a.defers }) a'.defers .returning w':=by
        obtain ⟨ms,d1,d2⟩:=e'.ds
        have hds : a'.defers=ms:=by rw [g'.defers,d1,hM]; simp
        rw [hds]
        refine leaves_marks ms g' d2 e'.gh e'.res fun N3 w3 g5 hgh3 hres3 => ⟨.tuple #[],by simp [results,k5],?_⟩
        have hM1 : M.res (w.heap.size+1)=some (.loop r0):=by rw [hM]; exact r1
        have hM2 : M.res w.heap.size=some (.deferred (some [])):=by rw [hM]; exact r2
        have hM3 : ∀ b o,N.res b=some o→M.res b=some o:=by rw [hM]; exact r3
        have hl3:=(g5.res _ _ (hres3 _ _ hM1)).2.1
        have hE:=run_endLoop (P:=P) hl3 (by rw [hr0]; simp)
        have hpen : r0.pending=none:=by rw [hr0]
        refine ⟨none,_,hE.trans (congrArg (fun x => Result.ok x (w3.putObj (w.heap.size+1) (.loop { r0 with state:=.exhausted }))) hpen),?_⟩
        have g6 : Gam N3 w0 ok0 ⟨keepEnv (lo+1000000) [] st2.env [],keepHp (lo+1000000) [] st2.hp []⟩ ok' (keepRho (lo+1000000) ρ' []) a' w3:=g5.gc (lo:=lo+1000000) (G:=⟨[],[]⟩) rfl fun k => by rw [hgh3]; exact hgA k
        have g7:=g6.reput (hres3 _ _ hM1) (.loop { r0 with state:=.exhausted })
        have hgh : ∀ k,(N3.with (w.heap.size+1) (.loop { r0 with state:=.exhausted })).gh k=ghosts st1.env a N.gh k:=fun k => by
          show N3.gh k=_
          rw [hgh3]
          exact hMgh k
        have ex : Ext N { N with res:=((N.with w.heap.size (.deferred (some []))).with (w.heap.size+1) (.loop { r0 with state:=.exhausted })).res,ds:={ target:=.collected w.heap.size,args:=#[] } :: N.ds }:=by
          refine ⟨rfl,rfl,rfl,rfl,fun b o hb => ?_,[{ target:=.collected w.heap.size,args:=#[] }],rfl,⟨w.heap.size,rfl,hND,?_,by simp⟩,trivial⟩
          · have hlt := (Array.getElem?_eq_some_iff.1 (g1.res b o hb).2.1).1
            show ((N.with w.heap.size (.deferred (some []))).with (w.heap.size+1) (.loop { r0 with state:=.exhausted })).res b=some o
            rw [with_ne _ _ (by omega),with_ne _ _ (by omega)]
            exact hb
          · show ((N.with w.heap.size (.deferred (some []))).with (w.heap.size + 1) (.loop { r0 with state := .exhausted })).res w.heap.size = _
            rw [with_ne _ _ (by omega),with_at]
        refine hq _ ok' (keepRho (lo+1000000) ρ' []) _ _ ex (g7.frame (env:=st1.env) (b:={ a with defers:=[{ target:=.collected w.heap.size,args:=#[] }]++a.defers })
          (M:={ N with res:=((N.with w.heap.size (.deferred (some []))).with (w.heap.size+1) (.loop { r0 with state:=.exhausted })).res,ds:={ target:=.collected w.heap.size,args:=#[] } :: N.ds }) g.size (by show [_]++a.defers=_ :: N.ds; rw [g.defers]; rfl) (fun k hk => g.kept k hk) (fun k => ?_) (fun k => ?_) (fun b o hb => ?_))
        · have := g7.gh (2 * k + 1)
          rw [hgh,ghosts_gh] at this
          exact this
        · have := g7.gh (2 * k)
          rw [hgh,ghosts_env] at this
          exact this
        · have hb' : ((N.with w.heap.size (.deferred (some []))).with (w.heap.size + 1) (.loop { r0 with state := .exhausted })).res b = some o := hb
          by_cases e1 : b=w.heap.size+1
          · subst e1; rw [with_at] at hb' ⊢; exact hb'
          · rw [with_ne _ _ e1] at hb' ⊢
            by_cases e2 : b=w.heap.size
            · subst e2; rw [with_at] at hb'; rw [← hb']; exact hres3 _ _ hM2
            · rw [with_ne _ _ e2] at hb'; exact hres3 _ _ (hM3 _ _ hb')
      rcases hez with rfl | rfl
      · exact hend
      · exact hend

theorem code_ok' (hmix : P.follows .mixedOrders=true) : ∀ m,CodeOk P m:=by
  intro m
  induction m using Nat.strongRecOn with
  | _ m IH =>
  intro rd C N w0 ok0 lo n A B hC hnN hst hrg c
  induction c with
  | skip =>
    intro st r ok ρ a w Q h g hq
    cases m with
    | zero => cases h
    | succ m =>
      obtain rfl:=Option.some.inj h
      exact wpIn_skip (hq _ _ _ _ _ (Ext.refl _) g)
  | region id ops draw =>
    intro st r ok ρ a w Q h g hq
    cases draw with
    | false =>
      simp only [cCode] at h
      obtain ⟨hg,h⟩:=orBad_ok h
      cases hy : yldOf P n ops (look id A) with
      | none =>
        rw [hy] at h
        simp only [orReg] at h
        cases m with
        | zero => cases h
        | succ m =>
          simp only [ev] at h
          obtain ⟨st1,h1,rfl⟩:=regK_some h
          rw [evOps_idx (cOpers P n ops ops.toList) (cOpers P n ops ops.toList) 0 st (by simp),cOpers_length,← List.range_eq_range'] at h1
          refine wpIn_region (wpOps_ok hC hnN g (by simpa using h1) fun ok ρ a w g' => hq _ _ _ _ _ (Ext.refl _) (g'.gc hg (fun k => hst.1 _ k hg)))
      | some c =>
        rw [hy] at h
        simp only [orReg] at h
        unfold yldOf at hy
        split at hy
        · rename_i o1 o2 o3 hops
          exact wpIn_region (yld_ok IH hC hnN hops hy h hg (fun k => hst.1 _ k hg) g hq)
        · cases hy
    | true =>
      simp only [cCode] at h
      obtain ⟨hg,h⟩:=orBad_ok h
      unfold drawC at h
      split at h
      · rename_i hd
        cases m with
        | zero => cases h
        | succ m =>
          simp only [ev] at h
          obtain ⟨st1,h1,rfl⟩:=regK_some h
          refine wpIn_region_draw fun t => ?_
          rw [hmix]
          exact wpOps_ok hC hnN g.drew (draw_idx h1 hd t) fun ok ρ a w g' => hq _ _ _ _ _ (Ext.refl _) (g'.gc hg (fun k => hst.1 _ k hg))
      · split at h
        · cases m with
          | zero => cases h
          | succ m =>
            simp only [ev] at h
            refine wpIn_region_draw fun t => ?_
            rw [hmix]
            obtain ⟨st1,h1,rfl⟩:=regK_some (evAll_mem h _ (sched_mem ops t))
            exact wpOps_ok hC hnN g.drew h1 fun ok ρ a w g' => hq _ _ _ _ _ (Ext.refl _) (g'.gc hg (fun k => hst.1 _ k hg))
        · cases m<;>cases h
  | seq x y ihx ihy =>
    intro st r ok ρ a w Q h g hq
    cases m with
    | zero => cases h
    | succ m =>
      simp only [cCode,ev] at h
      refine wpIn_seq ?_
      cases hx : ev C lo m (cCode P n A B x) st with
      | none => rw [hx] at h; cases h
      | some q =>
        rw [hx] at h
        refine IH m (Nat.lt_succ_self _) hC hnN hst hrg x hx g fun N' ok' ρ' a' w' e' g' => ?_
        obtain ⟨e,st1⟩:=q
        cases e with
        | norm => exact IH m (Nat.lt_succ_self _) (e'.good hC) (e'.le hnN) (e'.stable hst) (e'.rg hrg) y h g' fun N2 ok2 ρ2 a2 w2 e2 g2 => hq _ _ _ _ _ (e'.trans e2) g2
        | exit i =>
          obtain rfl:=Option.some.inj h
          exact hq _ _ _ _ _ e' g'
        | ret =>
          obtain rfl:=Option.some.inj h
          exact hq _ _ _ _ _ e' g'
  | cond c x y ihx ihy =>
    intro st r ok ρ a w Q h g hq
    simp only [cCode] at h
    split at h
    · rename_i x' hx
      cases m with
      | zero => cases h
      | succ m =>
        simp only [ev] at h
        have hr:=rd_ok g hx
        unfold condK at h
        split at h
        · rename_i hb
          rw [hb] at hr
          simp only [LRep,TRep] at hr
          split at h
          · rename_i e
            subst e
            exact wpIn_cond_true hr (IH m (Nat.lt_succ_self _) hC hnN hst hrg x h g hq)
          · rename_i b e
            cases b with
            | true => exact absurd rfl e
            | false => exact wpIn_cond_false hr (IH m (Nat.lt_succ_self _) hC hnN hst hrg y h g hq)
        · cases h
    · exact (ev_bad h).elim
  | block id b ih =>
    intro st r ok ρ a w Q h g hq
    cases m with
    | zero => cases h
    | succ m =>
      simp only [cCode,ev] at h
      refine wpIn_block ?_
      cases hx : ev C lo m (cCode P n A B b) st with
      | none => rw [hx] at h; cases h
      | some q =>
        rw [hx] at h
        refine IH m (Nat.lt_succ_self _) hC hnN hst hrg b hx g fun N' ok' ρ' a' w' e' g' => ?_
        obtain ⟨e,st1⟩:=q
        cases e with
        | norm =>
          obtain rfl:=Option.some.inj h
          exact hq _ _ _ _ _ e' g'
        | exit i =>
          simp only [blockK] at h
          simp only [toExit,Exit.inBlock]
          split at h
          · rename_i e
            rw [if_pos e]
            obtain rfl:=Option.some.inj h
            exact hq _ _ _ _ _ e' g'
          · rename_i e
            rw [if_neg e]
            obtain rfl:=Option.some.inj h
            exact hq _ _ _ _ _ e' g'
        | ret =>
          obtain rfl:=Option.some.inj h
          exact hq _ _ _ _ _ e' g'
  | loop b ih =>
    intro st r ok ρ a w Q h g hq
    simp only [cCode] at h
    refine wp_loop_fuel (fun k a w => ∃ N' st ok ρ,k≤m∧Ext N N'∧ev C lo k (.loop (cCode P n A B b)) st=some r∧Gam N' w0 ok0 st ok ρ a w) (k:=m) ⟨N,st,ok,ρ,Nat.le_refl _,Ext.refl _,h,g⟩ ?_
    rintro k a w ⟨N1,st,ok,ρ,hk,e1,h,g⟩
    cases k with
    | zero => cases h
    | succ k =>
      simp only [ev] at h
      cases hx : ev C lo k (cCode P n A B b) st with
      | none => rw [hx] at h; cases h
      | some q =>
        rw [hx] at h
        refine IH k hk (e1.good hC) (e1.le hnN) (e1.stable hst) (e1.rg hrg) b hx g fun N' ok' ρ' a' w' e' g' => ?_
        obtain ⟨e,st1⟩:=q
        cases e with
        | norm => exact ⟨k,Nat.lt_succ_self _,N',st1,ok',ρ',Nat.le_of_lt hk,e1.trans e',h,g'⟩
        | exit i =>
          obtain rfl:=Option.some.inj h
          exact hq _ _ _ _ _ (e1.trans e') g'
        | ret =>
          obtain rfl:=Option.some.inj h
          exact hq _ _ _ _ _ (e1.trans e') g'
  | exit id =>
    intro st r ok ρ a w Q h g hq
    simp only [cCode] at h
    obtain ⟨hg,h⟩:=orBad_ok h
    match m,h with
    | 0,h => cases h
    | 1,h => cases h
    | m + 2, h =>
      obtain rfl:=Option.some.inj h
      exact wpIn_exit (hq _ _ _ _ _ (Ext.refl _) (g.gc hg (fun k => hst.2 _ k hg)))
  | ret =>
    intro st r ok ρ a w Q h g hq
    cases m with
    | zero => cases h
    | succ m =>
      obtain rfl:=Option.some.inj h
      exact wpIn_ret (hq _ _ _ _ _ (Ext.refl _) g)
  | scope b ih =>
    intro st r ok ρ a w Q h g hq
    simp only [cCode] at h
    refine wpIn_scope_straight (ih h g fun N' ok ρ a w e' g' => ?_)
    have:=hq N' ok ρ a w e' g'
    obtain ⟨e,st1⟩:=r
    cases e<;>exact this
  | label l =>
    intro st r ok ρ a w Q h g hq
    cases m with
    | zero => cases h
    | succ m =>
      obtain rfl:=Option.some.inj h
      exact wpIn_label (hq _ _ _ _ _ (Ext.refl _) g)
  | rangeFunc x ps ac bd iha ihb =>
    intro st r ok ρ a w Q h g hq
    simp only [cCode] at h
    split at h
    · rename_i y p hx hps
      obtain ⟨hg,h⟩:=orBad_ok h
      simp only [Bool.and_eq_true] at hg
      obtain ⟨rfl,hlow⟩:=hrg hg.1.1
      cases m with
      | zero => cases h
      | succ m => exact rng_ok (IH m (Nat.lt_succ_self _)) hC hnN hlow hx hps hg.1.2 hg.2 h g hq
    · exact (ev_bad h).elim
  | _ => intro st r ok ρ a w Q h g hq; exact (ev_bad h).elim
end
end Go.Proofs.Ytcecojdeljbjoaa.Sx
namespace Go.Proofs.Ytcecojdeljbjoaa.Sx
open Go Go.RowKit

section
variable {P : Program} {C : Cs} {N : Rm} {w0 : World} {ok0 : Nat→Prop} {ok : Nat→Prop} {a : Act} {w : World} {st : St} {ρ : Rho}

def Mine (h : Hp) (ids : List Nat) (i : Nat) : Prop:=ids.count i=1∧∃ e sz rows,h i=some (.arr false e sz rows)
def okEnd (ok : Nat→Prop) (ρ : Rho) (h : Hp) (ids : List Nat) (b : Nat) : Prop:=ok b∨∃ i o K,¬ Mine h ids i∧h i=some o∧o.live=true∧ρ i=some (b,K)

theorem okEnd_plus {h : Hp} {ids is : List Nat} (hs : ∀ i∈is,¬ Mine h ids i) : Same w w (okPlus ok ρ h is) (okEnd ok ρ h ids):=fun b hb => ⟨rfl,hb.imp id fun ⟨i,hi,o,K,r⟩ => ⟨i,o,K,hs i hi,r⟩⟩
theorem okEnd_old {h : Hp} {ids : List Nat} : Same w w ok (okEnd ok ρ h ids):=fun b hb => ⟨rfl,.inl hb⟩

theorem expFst_some {x : Option (TV × List Nat)} {t : TV} (h : expFst x=some t) : ∃ is,x=some (t,is):=by
  cases x with
  | none => cases h
  | some q => obtain ⟨t',is⟩:=q; obtain rfl:=Option.some.inj h; exact ⟨is,rfl⟩

theorem solidCell_ids {h : Hp} {l : LV} {t : TV} {is : List Nat} (he : solidCell h l=some (t,is)) : ∀ i∈is,i∈cellIds l:=by
  unfold solidCell at he
  split at he
  case h_8 id off len =>
    unfold solidS at he
    split at he
    · simp only [Option.some.injEq, Prod.mk.injEq] at he
      rw [← he.2]
      intro i hi
      simp only [List.mem_singleton] at hi
      subst hi
      simp only [cellIds,offIds]
      split<;>simp
    · cases he
  all_goals first | (cases he; done) | (simp only [Option.some.injEq,Prod.mk.injEq] at he; rw [← he.2]; intro i hi; simp at hi)
theorem solidCell_kind {h : Hp} {l : LV} {t : TV} {is : List Nat} (he : solidCell h l=some (t,is)) : (∀ cs,t≠.agg cs)∧(∀ cs,t≠.tup cs)∧∀ e sz rows,t≠.sl (.own e) sz rows:=by
  unfold solidCell at he
  split at he
  case h_8 id off len =>
    unfold solidS at he
    split at he
    · simp only [Option.some.injEq,Prod.mk.injEq] at he; rw [← he.1]; simp
    · cases he
  all_goals first | (cases he; done) | (simp only [Option.some.injEq,Prod.mk.injEq] at he; rw [← he.1]; simp)
theorem resC_plain {w : World} {ok : Nat→Prop} {t : TV} {v : Value} (h1 : ∀ e sz rows,t≠.sl (.own e) sz rows) (h : TRep w ok t v) : ResC w ok t v []:=by
  cases t with
  | sl fl sz rows => cases fl with
    | own e => exact absurd rfl (h1 e sz rows)
    | shared => exact ⟨rfl,h⟩
    | tight e => exact ⟨rfl,h⟩
  | _ => exact ⟨rfl,h⟩

theorem expC_ok (g : Gam N w0 ok0 st ok ρ a w) {ids : List Nat} {l : LV} {t : TV} (h : expC st.hp ids l=some t) {v : Value} (hl : LRep w ok ρ st.hp l v) (hc : ∀ i,ids.count i=1→(cellIds l).count i≤1) :
    ∃ xs : List Nat,∃ b : Blks,ResC w (okEnd ok ρ st.hp ids) t v b∧(b=xs.map ρ∨(xs=[]∧b=[none]))∧xs.Sublist (cellIds l)∧(∀ x∈xs,Mine st.hp ids x)∧v.oneCell'=true∧(∀ cs,t≠.agg cs)∧(∀ cs,t≠.tup cs):=by
  have plain : ∀ {t' : TV} {is : List Nat},solidCell st.hp l=some (t',is)→(∀ i∈is,¬ Mine st.hp ids i)→t'=t→∃ xs : List Nat,∃ b : Blks,ResC w (okEnd ok ρ st.hp ids) t v b∧(b=xs.map ρ∨(xs=[]∧b=[none]))∧xs.Sublist (cellIds l)∧(∀ x∈xs,Mine st.hp ids x)∧v.oneCell'=true∧(∀ cs,t≠.agg cs)∧(∀ cs,t≠.tup cs):=by
    intro t' is he hm e
    subst e
    obtain ⟨k1,k2⟩:=solidCell_ok g he hl
    obtain ⟨q1,q2,q3⟩:=solidCell_kind he
    exact ⟨[],[],resC_plain q3 (k1.to (okEnd_plus hm)),.inl rfl,by simp,by simp,k2,q1,q2⟩
  unfold expC at h
  split at h
  · rename_i e sz
    obtain rfl:=Option.some.inj h
    simp only [LRep,TRep] at hl
    obtain ⟨ad,len,cap,rfl,h2,h3,h4,h5,h6⟩:=hl
    refine ⟨[],[none],⟨none,ad,cap,rfl,by rw [h2],h4,.inl ⟨rfl,rfl,by rw [h5 e rfl,h2]; rfl⟩⟩,.inr ⟨rfl,rfl⟩,by simp,by simp,rfl,by simp,by simp⟩
  · rename_i id off len
    unfold expS at h
    split at h
    · rename_i fz e sz rows hid
      split at h
      · rename_i hh
        obtain ⟨h1,h2,h3⟩:=hh
        have h1:=of_decide_eq_true h1
        subst h2 h3
        obtain rfl:=Option.some.inj h
        have hmine : Mine st.hp ids id:=⟨h1,e,sz,rows,hid⟩
        simp only [LRep,hid,SRep] at hl
        obtain ⟨ad,cap,rfl,k1,k2,k3,k4⟩:=hl
        have hlen : (rows.take len).length=len:=by simp; omega
        refine ⟨[id],[ρ id],⟨ρ id,ad,cap,rfl,by rw [hlen],k3,?_⟩,.inl rfl,by simp [cellIds,offIds],by simpa using hmine,rfl,by simp,by simp⟩
        rcases g.obj id _ hid with ⟨q1,q2⟩ | ⟨b,K,cur,q1,q2,q3,q4,q5,q6⟩
        · left
          refine ⟨q1,by rw [q2]; simp,?_⟩
          rcases k4 with ⟨_,k5,_⟩ | ⟨b,K,k5,_⟩
          · exact k5
          · rw [q1] at k5; cases k5
        · right
          rcases k4 with ⟨k5,_⟩ | ⟨b',K',k5,k6,k7⟩
          · rw [q1] at k5; cases k5
          · rw [q1] at k5
            obtain ⟨rfl,rfl⟩ : b=b'∧K=K':=by simpa using k5
            have hcap : cap=K:=by omega
            subst hcap
            refine ⟨b,cur,q1,?_,q2,q3,by omega,(q6.take len).at okEnd_old rfl⟩
            rcases k7 with k7 | ⟨_,k7⟩
            · simpa using k7
            · omega
      · rename_i hh
        have e2 : TV.sl .shared sz ((rows.drop off).take len)=t:=Option.some.inj h
        refine plain (is:=[id]) (t':=.sl .shared sz ((rows.drop off).take len)) (by simp only [solidCell,hid,solidS]) (fun i hi hm => ?_) e2
        simp only [List.mem_singleton] at hi
        subst hi
        refine hh ⟨decide_eq_true hm.1,?_,?_⟩
        · obtain ⟨e', sz', rows', hr⟩ := hm.2
          rw [hid] at hr
          simp only [Option.some.injEq,Ob.arr.injEq] at hr
          exact hr.1
        · have := hc i hm.1
          simp only [cellIds,offIds] at this
          split at this
          · assumption
          · simp at this
    · cases h
  · rename_i hn1 hn2
    obtain ⟨is,he⟩:=expFst_some h
    refine plain he (fun i hi hm => ?_) rfl
    have:=solidCell_ids he i hi
    cases l with
    | s id off len => exact hn2 id off len rfl
    | _ => simp [cellIds] at this

theorem consE_some {x : Option TV} {y : Option (List TV)} {r : List TV} (h : consE x y=some r) : ∃ t ts,x=some t∧y=some ts∧r=t :: ts:=by
  unfold consE at h
  split at h
  · exact ⟨_,_,rfl,rfl,(Option.some.inj h).symm⟩
  · cases h

def From (ρ : Rho) (xs : List Nat) (bs : Blks) : Prop:=bs.filterMap id=(xs.map ρ).filterMap id
theorem from_of {xs : List Nat} {b : Blks} (h : b=xs.map ρ∨(xs=[]∧b=[none])) : From ρ xs b:=by
  rcases h with rfl | ⟨rfl,rfl⟩
  · rfl
  · rfl
theorem From.append {xs ys : List Nat} {b c : Blks} (h : From ρ xs b) (h' : From ρ ys c) : From ρ (xs++ys) (b++c):=by
  unfold From at *
  rw [List.filterMap_append,h,h',List.map_append,List.filterMap_append]

theorem expCs_ok (g : Gam N w0 ok0 st ok ρ a w) {ids : List Nat} {one : Bool} : ∀ {ls : List LV} {ts : List TV},expCs st.hp ids ls=some ts→∀ {vs : List Value},LReps w ok ρ st.hp one ls vs→(∀ i,ids.count i=1→(cellsIds ls).count i≤1) →
    ∃ xs : List Nat,∃ b : Blks,ResCs w (okEnd ok ρ st.hp ids) true ts vs b∧From ρ xs b∧xs.Sublist (cellsIds ls)∧(∀ x∈xs,Mine st.hp ids x)
  | [], ts, h, vs, hl, hc => by
    obtain rfl:=Option.some.inj h
    simp only [LReps] at hl
    exact ⟨[],[],⟨hl,rfl⟩,rfl,by simp,by simp⟩
  | l :: ls, ts, h, vs, hl, hc => by
    simp only [expCs] at h
    obtain ⟨t,ts',h1,h2,rfl⟩:=consE_some h
    simp only [LReps] at hl
    obtain ⟨v,r,rfl,_,hl1,hl2⟩:=hl
    obtain ⟨xs,b,k1,k2,k3,k4,k5,_,_⟩:=expC_ok g h1 hl1 fun i hi => by
      have:=hc i hi
      simp only [cellsIds,List.count_append] at this
      omega
    obtain ⟨ys,c,m1,m2,m3,m4⟩:=expCs_ok g h2 hl2 fun i hi => by
      have:=hc i hi
      simp only [cellsIds,List.count_append] at this
      omega
    refine ⟨xs++ys,b++c,⟨v,r,b,c,rfl,rfl,fun _ => k5,k1,m1⟩,(from_of k2).append m2,k3.append m3,fun x hx => ?_⟩
    rcases List.mem_append.1 hx with hx | hx
    · exact k4 x hx
    · exact m4 x hx

theorem solidP_kind {h : Hp} {id off : Nat} {o : Option Ob} {t : TV} {is : List Nat} (he : solidP h id off o=some (t,is)) : ∃ cs,t=.pc cs:=by
  unfold solidP at he
  split at he
  · unfold pcS at he
    split at he
    · simp only [Option.some.injEq,Prod.mk.injEq] at he; exact ⟨_,he.1.symm⟩
    · cases he
  · cases he
theorem solidFn_kind {h : Hp} {f : FuncId} {cs : List LV} {t : TV} {is : List Nat} (he : solidArg h (.fn f cs)=some (t,is)) : ∃ cs,t=.fn f cs:=by
  simp only [solidArg] at he
  unfold fnS at he
  split at he
  · simp only [Option.some.injEq,Prod.mk.injEq] at he; exact ⟨_,he.1.symm⟩
  · cases he

theorem expL_ok (g : Gam N w0 ok0 st ok ρ a w) {ids : List Nat} {l : LV} {t : TV} (h : expL st.hp ids l=some t) {v : Value} (hl : LRep w ok ρ st.hp l v) (hc : ∀ i,ids.count i=1→(resId l).count i≤1)
    (hp : plainRes [l]=true∨ids=[]) :
    ∃ xs : List Nat,∃ b : Blks,ResR w (okEnd ok ρ st.hp ids) t v b∧From ρ xs b∧xs.Sublist (resId l)∧(∀ x∈xs,Mine st.hp ids x)∧(∀ cs,t≠.tup cs):=by
  have shared : ids=[]→∀ {is : List Nat},solidArg st.hp l=some (t,is)→(∀ cs,t≠.agg cs)→(∀ cs,t≠.tup cs)→(∀ e sz rows,t≠.sl (.own e) sz rows)→∃ xs : List Nat,∃ b : Blks,ResR w (okEnd ok ρ st.hp ids) t v b∧From ρ xs b∧xs.Sublist (resId l)∧(∀ x∈xs,Mine st.hp ids x)∧(∀ cs,t≠.tup cs):=by
    intro e is he n1 n2 n3
    subst e
    have k:=solidArg_ok g he hl
    refine ⟨[],[],?_,rfl,by simp,by simp,n2⟩
    have r:=resC_plain n3 (k.to (okEnd_plus (w:=w) (ids:=[]) fun i _ hm => by have:=hm.1; simp at this))
    cases t with
    | agg cs => exact absurd rfl (n1 cs)
    | _ => exact r
  unfold expL at h
  split at h
  · rename_i cs
    simp only [LRep] at hl
    obtain ⟨vs,rfl,hl⟩:=hl
    cases he : expCs st.hp ids cs with
    | none => rw [he] at h; cases h
    | some ts =>
      rw [he] at h
      obtain rfl:=Option.some.inj h
      obtain ⟨xs,b,k1,k2,k3,k4⟩:=expCs_ok g he hl hc
      exact ⟨xs,b,⟨vs,rfl,k1⟩,k2,k3,k4,by simp⟩
  · have e : ids=[]:=by
      rcases hp with hp | hp
      · simp [plainRes] at hp
      · exact hp
    obtain ⟨is,he⟩:=expFst_some h
    obtain ⟨cs,rfl⟩:=solidP_kind (by simpa only [solidArg] using he)
    exact shared e he (by simp) (by simp) (by simp)
  · have e : ids=[]:=by
      rcases hp with hp | hp
      · simp [plainRes] at hp
      · exact hp
    obtain ⟨is,he⟩:=expFst_some h
    obtain ⟨cs,rfl⟩:=solidFn_kind he
    exact shared e he (by simp) (by simp) (by simp)
  · rename_i hn1 hn2 hn3
    have e : resId l=cellIds l:=by cases l with
      | agg cs => exact absurd rfl (hn1 cs)
      | _ => rfl
    rw [e] at hc ⊢
    obtain ⟨xs,b,k1,k2,k3,k4,_,k6,k7⟩:=expC_ok g h hl hc
    refine ⟨xs,b,?_,from_of k2,k3,k4,k7⟩
    cases t with
    | agg cs => exact absurd rfl (k6 cs)
    | _ => exact k1

theorem plainRes_cons {l : LV} {ls : List LV} (h : plainRes (l :: ls)=true) : plainRes [l]=true∧plainRes ls=true:=by
  cases l<;>simp_all [plainRes]

theorem expLs_ok (g : Gam N w0 ok0 st ok ρ a w) {ids : List Nat} : ∀ {ls : List LV} {ts : List TV},expLs st.hp ids ls=some ts→∀ {vs : List Value},LReps w ok ρ st.hp false ls vs→(∀ i,ids.count i=1→(resIds ls).count i≤1)→(plainRes ls=true∨ids=[]) →
    ∃ xs : List Nat,∃ b : Blks,ResRs w (okEnd ok ρ st.hp ids) ts vs b∧From ρ xs b∧xs.Sublist (resIds ls)∧(∀ x∈xs,Mine st.hp ids x)∧∀ t∈ts,∀ cs,t≠.tup cs
  | [], ts, h, vs, hl, hc, hp => by
    obtain rfl:=Option.some.inj h
    simp only [LReps] at hl
    exact ⟨[],[],⟨hl,rfl⟩,rfl,by simp,by simp,by simp⟩
  | l :: ls, ts, h, vs, hl, hc, hp => by
    simp only [expLs] at h
    obtain ⟨t,ts',h1,h2,rfl⟩:=consE_some h
    simp only [LReps] at hl
    obtain ⟨v,r,rfl,_,hl1,hl2⟩:=hl
    obtain ⟨xs,b,k1,k2,k3,k4,k5⟩:=expL_ok g h1 hl1 (fun i hi => by
      have:=hc i hi
      simp only [resIds,List.count_append] at this
      omega) (hp.imp (fun h => (plainRes_cons h).1) id)
    obtain ⟨ys,c,m1,m2,m3,m4,m5⟩:=expLs_ok g h2 hl2 (fun i hi => by
      have:=hc i hi
      simp only [resIds,List.count_append] at this
      omega) (hp.imp (fun h => (plainRes_cons h).2) id)
    refine ⟨xs++ys,b++c,⟨v,r,b,c,rfl,rfl,k1,m1⟩,k2.append m2,k3.append m3,fun x hx => ?_,fun x hx => ?_⟩
    · rcases List.mem_append.1 hx with hx | hx
      · exact k4 x hx
      · exact m4 x hx
    · rcases List.mem_cons.1 hx with rfl | hx
      · exact k5
      · exact m5 x hx

theorem nodup_of_count {xs : List Nat} (h : ∀ i,xs.count i≤1) : xs.Nodup:=List.nodup_iff_count.2 h

theorem expR_ok (g : Gam N w0 ok0 st ok ρ a w) {ls : List LV} {r : TV} (h : expR st.hp (some ls)=some r) {vs : List Value} (hl : LReps w ok ρ st.hp false ls vs) {v : Value} (hv : v=if h : vs.toArray.size=1 then vs.toArray[0] else .tuple vs.toArray) :
    RRep w0.heap.size w ok0 r v:=by
  simp only [expR] at h
  generalize hids : (if plainRes ls=true then resIds ls else [])=ids at h
  cases he : expLs st.hp ids ls with
  | none => rw [he] at h; cases h
  | some ts =>
    rw [he] at h
    have hc : ∀ i,ids.count i=1→(resIds ls).count i≤1:=fun i hi => by
      rw [← hids] at hi
      split at hi
      · omega
      · simp at hi
    have hp : plainRes ls=true∨ids=[]:=by
      rw [← hids]
      split
      · exact .inl (by assumption)
      · exact .inr rfl
    obtain ⟨xs,b,k1,k2,k3,k4,k5⟩:=expLs_ok g he hl hc hp
    refine ⟨okEnd ok ρ st.hp ids,b,?_,⟨?_,?_⟩,?_⟩
    · intro c hb
      rcases hb with hb | ⟨i,o,K,_,h2,h3,h4⟩
      · exact ⟨g.old c hb,(g.free c hb).1⟩
      · have := g.fresh i o c K h2 h3 h4
        exact ⟨fun hlt => by omega,this.2⟩
    · intro c K hm
      have hm' : (c,K)∈b.filterMap id:=List.mem_filterMap.2 ⟨_,hm,rfl⟩
      rw [k2] at hm'
      obtain ⟨y,hy,e⟩:=List.mem_filterMap.1 hm'
      obtain ⟨i,hi,rfl⟩:=List.mem_map.1 hy
      have e : ρ i=some (c,K):=e
      obtain ⟨hm1,e',sz,rows,hi2⟩:=k4 i hi
      have hf:=g.fresh i _ c K hi2 rfl e
      refine ⟨hf.1,hf.2,fun hb => ?_⟩
      rcases hb with hb | ⟨j,o,K',h1,h2,h3,h4⟩
      · exact (g.free c hb).2 i _ K hi2 rfl e
      · have := g.inj i j _ o c K K' hi2 h2 rfl h3 e h4
        subst this
        exact h1 ⟨hm1,e',sz,rows,hi2⟩
    · rw [k2]
      have hnd : xs.Nodup:=nodup_of_count fun i => by
        by_cases hi : i∈xs
        · have h1 := (k4 i hi).1
          exact Nat.le_trans (k3.count_le i) (hc i h1)
        · rw [List.count_eq_zero.2 hi]; omega
      clear k1 k2 k3 hv
      induction xs with
      | nil => simp
      | cons x xs ih =>
        obtain ⟨hx,hnd'⟩:=List.nodup_cons.1 hnd
        have ih':=ih (fun y hy => k4 y (by simp [hy])) hnd'
        simp only [List.map_cons]
        cases hr : ρ x with
        | none => simpa using ih'
        | some q =>
          simp only [List.filterMap_cons,id,List.map_cons,List.nodup_cons]
          refine ⟨fun hm => ?_,ih'⟩
          obtain ⟨p,hp,e⟩:=List.mem_map.1 hm
          obtain ⟨y,hy,e2⟩:=List.mem_filterMap.1 hp
          obtain ⟨j,hj,rfl⟩:=List.mem_map.1 hy
          have e2 : ρ j=some p:=e2
          obtain ⟨_,e3,sz3,rows3,h3⟩:=k4 x (by simp)
          obtain ⟨_,e4,sz4,rows4,h4⟩:=k4 j (by simp [hj])
          obtain ⟨c,K⟩:=q
          obtain ⟨c',K'⟩:=p
          simp only at e
          subst e
          have:=g.inj x j _ _ c' K K' h3 h4 rfl rfl hr e2
          subst this
          exact hx hj
    · match ts, k1, k5, h with
      | [], k1, _, h =>
        obtain rfl:=Option.some.inj h
        obtain ⟨rfl,rfl⟩:=k1
        exact ⟨#[],by rw [hv]; rfl,rfl,rfl⟩
      | [t], k1, k5, h =>
        obtain rfl:=Option.some.inj h
        obtain ⟨v',r',b1,b2,rfl,rfl,q1,rfl,rfl⟩:=k1
        have : v=v':=by rw [hv]; simp
        subst this
        rw [List.append_nil]
        have:=k5 t (by simp)
        cases t with
        | tup cs => exact absurd rfl (this cs)
        | _ => exact q1
      | t :: t' :: ts', k1, _, h =>
        obtain rfl:=Option.some.inj h
        have hlen : vs.length≠1:=by
          obtain ⟨v',r',b1,b2,rfl,rfl,_,q1⟩:=k1
          obtain ⟨v'',r'',b3,b4,rfl,_⟩:=q1
          simp
        exact ⟨vs.toArray,by rw [hv,dif_neg (by simpa using hlen)],by simpa using k1⟩

/-! ### a function -/
theorem liftV_ok {one : Bool} {h : Hp} : ∀ {ts : List TV} {vs : List Value},ValsRep w ok one ts vs→LReps w ok ρ h one (liftV ts) vs
  | [],vs,hv => by simp only [ValsRep] at hv; simp only [liftV,LReps]; exact hv
  | t :: ts, vs, hv => by
    simp only [ValsRep] at hv
    obtain ⟨v,r,h1,h2,h3,h4⟩:=hv
    simp only [liftV,LReps]
    exact ⟨v,r,h1,h2,by simp only [LRep]; exact h3,liftV_ok h4⟩
theorem inj_ok {h : Hp} {t : TV} {v : Value} (ht : TRep w ok t v) : LRep w ok ρ h (inj t) v:=by
  cases t with
  | agg cs =>
    simp only [TRep] at ht
    obtain ⟨vs,h1,h2⟩:=ht
    simp only [inj,LRep]
    exact ⟨vs,h1,liftV_ok h2⟩
  | _ => simp only [inj,LRep]; exact ht

theorem bindArgs_eq : ∀ (ts : List TV) (k i : Nat),bindArgs k ts i=if k≤i then (match ts[i - k]? with | some t => inj t | none => .u) else .u
  | [],k,i => by simp [bindArgs,e0]
  | t :: ts, k, i => by
    simp only [bindArgs,upd]
    by_cases e : i=k
    · subst e; simp
    · rw [if_neg e, bindArgs_eq ts (k + 1) i]
      by_cases hk : k≤i
      · rw [if_pos hk,if_pos (by omega),show i - k=(i - (k+1))+1 by omega,List.getElem?_cons_succ]
      · rw [if_neg hk,if_neg (by omega)]

theorem start_ok {args : List TV} {vs : List Value} (hb : ∀ b,ok b→b < w.heap.size) (hv : ValsRep w ok false args vs) (m : Nat) :
    Gam (Rm.plain (vs.toArray++Array.replicate m undef).size) w ok (start args) ok (fun _ => none) { tmps:=vs.toArray++Array.replicate m undef,defers:=[] } w where
  below:=Below.refl _ _
  old:=fun _ h _ => h
  size:=rfl
  defers:=rfl
  free:=fun b h => ⟨hb b h,fun _ _ _ h' => by cases h'⟩
  inj:=fun _ _ _ _ _ _ _ h' => by cases h'
  fresh:=fun _ _ _ _ h' => by cases h'
  obj:=fun _ _ h' => by cases h'
  kept:=fun _ h' => by cases h'
  gh:=fun _ => by simp only [Rm.plain,LRep]
  res:=fun _ _ h' => by cases h'
  env:=fun k => by
    show LRep w ok _ _ (bindArgs 0 args k) _
    rw [bindArgs_eq]
    simp only [Nat.zero_le,if_true,Nat.sub_zero]
    cases hk : args[k]? with
    | none => simp only [LRep]
    | some t =>
      obtain ⟨v,h1,_,h3⟩:=hv.get k t hk
      have hlt:=(List.getElem?_eq_some_iff.1 h1).1
      have : (vs.toArray++Array.replicate m undef).getD k undef=v:=by
        rw [Array.getD_eq_getD_getElem?,Array.getElem?_append_left (by simpa using hlt)]
        simp [h1]
      simp only
      rw [this]
      exact inj_ok h3

def resSem (a : Act) : ResultVar→Sem Value
  | .tmp t => pure (a.tmps.getD t undef)
  | .cell x t => do loadVar t (← asAddr (a.tmps.getD x undef))
theorem run_mapM_cons {α β : Type} (w : World) (f : α→Sem β) (x : α) (xs : List α) {y : β} {ys : List β} (h1 : (f x).run P w=.ok y w) (h2 : (xs.mapM f).run P w=.ok ys w) : ((x :: xs).mapM f).run P w=.ok (y :: ys) w:=by
  rw [List.mapM_cons]
  simp [h1,h2]

theorem resLs_ok (g : Gam N w0 ok0 st ok ρ a w) : ∀ {rs : List ResultVar} {ls : List LV},rs.all (resOk P)=true→resLs st (rs.map (cRes P))=some ls →
    ∃ vs : List Value,(rs.mapM (resSem a)).run P w=.ok vs w∧LReps w ok ρ st.hp false ls vs
  | [], ls, _, h => by
    obtain rfl:=Option.some.inj h
    exact ⟨[],by simp,by simp only [LReps]⟩
  | r :: rs, ls, hr, h => by
    simp only [List.all_cons,Bool.and_eq_true] at hr
    simp only [List.map_cons,resLs] at h
    cases h1 : resL st (cRes P r) with
    | none => rw [h1] at h; cases h
    | some l =>
      rw [h1] at h
      cases h2 : resLs st (rs.map (cRes P)) with
      | none => rw [h2] at h; cases h
      | some ls' =>
        rw [h2] at h
        obtain rfl:=Option.some.inj h
        obtain ⟨vs,k1,k2⟩:=resLs_ok g hr.2 h2
        cases r with
        | tmp t =>
          obtain rfl:=Option.some.inj h1
          refine ⟨a.tmps.getD t undef :: vs,?_,?_⟩
          · exact run_mapM_cons w _ _ _ (by simp [resSem]) k1
          · simp only [LReps]
            exact ⟨_,_,rfl,by simp,g.env t,k2⟩
        | cell x t =>
          simp only [cRes,resL] at h1
          have hok:=hr.1
          simp only [resOk] at hok
          split at hok
          · rename_i n hs
            simp only [Bool.and_eq_true,beq_iff_eq] at hok
            rw [← hok.2] at h1
            obtain ⟨b,o',us,q1,q2,q3,q4⟩:=loadL_ok g h1 (g.env x)
            obtain ⟨⟨k,hk⟩,h1'⟩:=plainTy_ok hok.1
            have:=run_loadVar (P:=P) w hk hs b o' us q2 h1' q3
            refine ⟨packV (isAggB P t) us :: vs,?_,?_⟩
            · exact run_mapM_cons w _ _ _ (by simp [resSem,q1,asAddr,this]) k1
            · simp only [LReps]
              exact ⟨_,_,rfl,by simp,q4,k2⟩
          · cases hok
end
end Go.Proofs.Ytcecojdeljbjoaa.Sx
namespace Go.Proofs.Ytcecojdeljbjoaa.Sx
open Go Go.RowKit

section
variable {P : Program} {C : Cs}

theorem fn_ok (hC : Good P C) (hy : C.y=none) (hmix : P.follows .mixedOrders=true) {f : FuncId} {fn : Func} (hf : P.funcs[f]?=some fn) (hname : (fn.name == "runtime.NumGoroutine")=false) {A B : List (Nat × GC)} {c : Code} (hb : fn.body=some c)
    {m : Nat} {args : List TV} {r : TV} (h : finR (cFn P A B fn).res (ev C 0 m (cFn P A B fn).body (start args))=some r) : Sound P f args r:=by
  refine ⟨⟨fn,hf,hname,by rw [hb]; rfl⟩,fun w ok vs hbd hv => ?_⟩
  refine calls_rf (rd:=none) (n:=0) (callsIn_of_wp_marks hf hb trivial ?_)
  have g0:=start_ok hbd hv (fn.ntmps - vs.toArray.size)
  obtain ⟨M,hM⟩ : ∃ M : Rm,M=⟨(vs.toArray++Array.replicate (fn.ntmps - vs.toArray.size) undef).size,(look 1000003 A).slots.contains,fun s => (vs.toArray++Array.replicate (fn.ntmps - vs.toArray.size) undef).getD s undef,fun _ => (.u,undef),fun _ => none,[]⟩:=⟨_,rfl⟩
  have g : Gam M w ok (start args) ok (fun _ => none) { tmps:=vs.toArray++Array.replicate (fn.ntmps - vs.toArray.size) undef,defers:=[] } w:=by
    rw [hM]
    exact g0.frame rfl rfl (fun _ _ => rfl) (fun _ => by simp only [LRep]) g0.env (fun _ _ h => by cases h)
  have hN : Sl.le ⟨fn.ntmps,(look 1000003 A).slots,(look 1000000 A).slots,true⟩ M:=by
    have h0 : fn.ntmps≤(vs.toArray++Array.replicate (fn.ntmps - vs.toArray.size) undef).size:=by simp; omega
    rw [hM]
    refine ⟨h0,fun d hd => ?_,fun d hd => hd⟩
    simp only [Sl.may,Bool.and_eq_true,decide_eq_true_eq,Bool.not_eq_true'] at hd
    exact ⟨Nat.lt_of_lt_of_le hd.1 h0,hd.2⟩
  have hst : Stable M 0 A B:=by rw [hM]; exact ⟨fun _ _ _ => rfl,fun _ _ _ => rfl⟩
  have hgood : GoodAt P C M 0:=⟨hC,fun _ _ _ _ _ _ _ => by rw [hM]; rfl,fun R hR => by rw [hy] at hR; cases hR⟩
  have hrg : RgOk ⟨fn.ntmps,(look 1000003 A).slots,(look 1000000 A).slots,true⟩ none M 0:=fun _ => ⟨rfl,fun _ => by rw [hM]; rfl⟩
  simp only [cFn,hb] at h
  cases he : ev C 0 m (orBad (fn.results.toList.all (resOk P)) (cCode P ⟨fn.ntmps,(look 1000003 A).slots,(look 1000000 A).slots,true⟩ A B c)) (start args) with
  | none => rw [he] at h; cases h
  | some q =>
    rw [he] at h
    obtain ⟨hres,he⟩:=orBad_ok he
    have key : ∀ {st : St} {ok1 : Nat→Prop} {ρ : Rho} {a' : Act} {w' : World} {N' : Rm},Ext M N'→expR st.hp (resLs st (fn.results.toList.map (cRes P)))=some r→Gam N' w ok st ok1 ρ a' w' →
        LeavesInM (FR none) 0 P fn a'.tmps (fun e w' => ∃ v,e=.returned v∧Below w.heap.size w w'∧RRep w.heap.size w' ok r v) a'.defers .returning w':=by
      intro st ok1 ρ a' w' N' e' hx g'
      obtain ⟨ms,d1,d2⟩:=e'.ds
      have hds : a'.defers=ms:=by rw [g'.defers,d1,hM]; simp
      rw [hds]
      refine leaves_marks ms g' d2 e'.gh e'.res fun N3 w3 g3 hgh3 hres3 => ?_
      have g4 : Gam (Rm.plain a'.tmps.size) w ok st ok1 ρ { a' with defers:=[] } w3:=g3.frame rfl rfl (fun _ h => by cases h) (fun _ => by simp only [Rm.plain,LRep]) g3.env (fun _ _ h => by cases h)
      cases hl : resLs st (fn.results.toList.map (cRes P)) with
      | none => rw [hl] at hx; cases hx
      | some ls =>
        rw [hl] at hx
        obtain ⟨us,k1,k2⟩:=resLs_ok (P:=P) g4 hres hl
        refine ⟨if h : us.toArray.size=1 then us.toArray[0] else .tuple us.toArray,?_,_,rfl,g4.below,expR_ok g4 hx k2 rfl⟩
        have e : results fn a'.tmps=(do let vs ← fn.results.mapM (resSem { a' with defers:=[] }); pure (if h : vs.size=1 then vs[0] else .tuple vs)):=rfl
        rw [e,Array.mapM_eq_mapM_toList]
        simp [k1]
    refine code_ok' hmix m hgood hN hst hrg c he g fun N' ok1 ρ a' w' e' g' => ?_
    obtain ⟨e,st1⟩:=q
    cases e with
    | norm => exact key e' h g'
    | ret => exact key e' h g'
    | exit i => cases h

theorem fnI_ok (hC : Good P C) (hy : C.y=none) (hmix : P.follows .mixedOrders=true) {f : FuncId} {fn : Func} (hf : P.funcs[f]?=some fn) (hname : (fn.name == "runtime.NumGoroutine")=false) {A B : List (Nat × GC)} {c : Code} (hb : fn.body=some c)
    {m lo : Nat} {h0 h' : Hp} {args : List LV} {l : LV} (h : finI (cFn P A B fn).res (ev C lo m (cFn P A B fn).body (startI args h0))=some (l,h')) : FnOK P f ∧
  ∀ (N : Rm) (w0 : World) (ok0 : Nat→Prop) (env : Nat→LV) (ok : Nat→Prop) (ρ : Rho) (a : Act) (w : World) (vs : List Value),Gam N w0 ok0 ⟨env,h0⟩ ok ρ a w→(∀ k,maskL lo [] (env k)=env k)→(∀ k,maskL lo [] (N.gh k).1=(N.gh k).1) →
    LReps w ok ρ h0 false args vs→Calls P f vs.toArray w fun e w' => ∃ v,e=.returned v∧∃ ok' ρ',Gam N w0 ok0 ⟨env,h'⟩ ok' ρ' a w'∧LRep w' ok' ρ' h' l v:=by
  refine ⟨⟨fn,hf,hname,by rw [hb]; rfl⟩,fun N w0 ok0 env ok ρ a w vs g henv hgh hv => ?_⟩
  refine calls_rf (rd:=none) (n:=0) (callsIn_of_wp_marks hf hb trivial ?_)
  obtain ⟨M,hM⟩ : ∃ M : Rm,M=⟨(vs.toArray++Array.replicate (fn.ntmps - vs.toArray.size) undef).size,(look 1000003 A).slots.contains,fun s => (vs.toArray++Array.replicate (fn.ntmps - vs.toArray.size) undef).getD s undef,ghosts env a N.gh,N.res,[]⟩:=⟨_,rfl⟩
  have hlow : ∀ k,maskL lo [] (M.gh k).1=(M.gh k).1:=fun k => by
    subst hM
    show maskL lo [] (ghosts env a N.gh k).1=(ghosts env a N.gh k).1
    unfold ghosts
    split
    · exact henv _
    · exact hgh _
  have gs : Gam M w0 ok0 (startI args h0) ok ρ { tmps:=vs.toArray++Array.replicate (fn.ntmps - vs.toArray.size) undef,defers:=[] } w:=by
    subst hM
    exact { below:=g.below,old:=g.old,size:=rfl,defers:=rfl,free:=g.free,inj:=g.inj,fresh:=g.fresh,obj:=g.obj,kept:=fun _ _ => rfl,res:=g.res
            gh:=fun k => by
              show LRep w ok ρ h0 (ghosts env a N.gh k).1 (ghosts env a N.gh k).2
              unfold ghosts
              split
              · exact g.env _
              · exact g.gh _
            env:=fun k => by
              show LRep w ok ρ h0 (bindL 0 args k) _
              rw [bindL_eq]
              simp only [Nat.zero_le,if_true,Nat.sub_zero]
              cases hk : args[k]? with
              | none => simp only [LRep]
              | some t =>
                obtain ⟨v,h1,_,h3⟩:=hv.get k t hk
                have hlt:=(List.getElem?_eq_some_iff.1 h1).1
                have : (vs.toArray++Array.replicate (fn.ntmps - vs.toArray.size) undef).getD k undef=v:=by
                  rw [Array.getD_eq_getD_getElem?,Array.getElem?_append_left (by simpa using hlt)]
                  simp [h1]
                simp only [this]
                exact h3 }
  have hN : Sl.le ⟨fn.ntmps,(look 1000003 A).slots,(look 1000000 A).slots,true⟩ M:=by
    have h0 : fn.ntmps≤(vs.toArray++Array.replicate (fn.ntmps - vs.toArray.size) undef).size:=by simp; omega
    subst hM
    refine ⟨h0,fun d hd => ?_,fun d hd => hd⟩
    simp only [Sl.may,Bool.and_eq_true,decide_eq_true_eq,Bool.not_eq_true'] at hd
    exact ⟨Nat.lt_of_lt_of_le hd.1 h0,hd.2⟩
  have hst : Stable M lo A B:=⟨fun _ k _ => low_fix (Nat.le_refl _) (hlow k) _,fun _ k _ => low_fix (Nat.le_refl _) (hlow k) _⟩
  have hgood : GoodAt P C M lo:=⟨hC,fun _ _ _ _ _ _ k => low_fix (by omega) (hlow k) _,fun R hR => by rw [hy] at hR; cases hR⟩
  have hrg : RgOk ⟨fn.ntmps,(look 1000003 A).slots,(look 1000000 A).slots,true⟩ none M lo:=fun _ => ⟨rfl,hlow⟩
  simp only [cFn,hb] at h
  cases he : ev C lo m (orBad (fn.results.toList.all (resOk P)) (cCode P ⟨fn.ntmps,(look 1000003 A).slots,(look 1000000 A).slots,true⟩ A B c)) (startI args h0) with
  | none => rw [he] at h; cases h
  | some q =>
    rw [he] at h
    obtain ⟨hres,he⟩:=orBad_ok he
    have key : ∀ {st : St} {ok1 : Nat→Prop} {ρ1 : Rho} {a' : Act} {w' : World} {N' : Rm},Ext M N'→tupI st.hp (resLs st (fn.results.toList.map (cRes P)))=some (l,h')→Gam N' w0 ok0 st ok1 ρ1 a' w' →
        LeavesInM (FR none) 0 P fn a'.tmps (fun e w' => ∃ v,e=.returned v∧∃ ok' ρ',Gam N w0 ok0 ⟨env,h'⟩ ok' ρ' a w'∧LRep w' ok' ρ' h' l v) a'.defers .returning w':=by
      intro st ok1 ρ1 a' w2 N' e' hx g2
      obtain ⟨ms,d1,d2⟩:=e'.ds
      have hds : a'.defers=ms:=by rw [g2.defers,d1,hM]; simp
      rw [hds]
      refine leaves_marks ms g2 d2 e'.gh e'.res fun N3 w' g' hgh3 hres3 => ?_
      have hMgh : ∀ k,N3.gh k=ghosts env a N.gh k:=fun k => by rw [hgh3,hM]
      have hMres : ∀ b o,N.res b=some o→N3.res b=some o:=fun b o hb => hres3 b o (by rw [hM]; exact hb)
      cases hl : resLs st (fn.results.toList.map (cRes P)) with
      | none => rw [hl] at hx; cases hx
      | some ls =>
        rw [hl] at hx
        obtain ⟨us,k1,k2⟩:=resLs_ok (P:=P) g' hres hl
        have hh : h'=st.hp∧LRep w' ok1 ρ1 st.hp l (if h : us.toArray.size=1 then us.toArray[0] else .tuple us.toArray):=by
          match ls,us,hx,k2 with
          | [], us, hx, k2 =>
            simp only [tupI,Option.some.injEq,Prod.mk.injEq] at hx
            simp only [LReps] at k2
            subst k2
            refine ⟨hx.2.symm,?_⟩
            rw [← hx.1]
            simp only [LRep]
            exact ⟨#[],rfl,by simp only [LReps]⟩
          | [x], us, hx, k2 =>
            simp only [tupI,Option.some.injEq,Prod.mk.injEq] at hx
            simp only [LReps] at k2
            obtain ⟨v,r,rfl,_,k3,rfl⟩:=k2
            refine ⟨hx.2.symm,?_⟩
            rw [← hx.1]
            exact k3
          | x :: y :: ls, us, hx, k2 =>
            simp only [tupI,Option.some.injEq,Prod.mk.injEq] at hx
            refine ⟨hx.2.symm,?_⟩
            have hlen:=k2.length
            rw [← hx.1,dif_neg (by simp only [List.size_toArray]; rw [hlen]; simp)]
            simp only [LRep]
            exact ⟨us.toArray,rfl,k2⟩
        refine ⟨if h : us.toArray.size=1 then us.toArray[0] else .tuple us.toArray,?_,_,rfl,ok1,ρ1,?_,?_⟩
        · have e : results fn a'.tmps = (do let vs ← fn.results.mapM (resSem a'); pure (if h : vs.size = 1 then vs[0] else .tuple vs)) := rfl
          rw [e,Array.mapM_eq_mapM_toList]
          simp [k1]
        · rw [hh.1]
          exact { below:=g'.below,old:=g'.old,size:=g.size,defers:=g.defers,free:=g'.free,inj:=g'.inj,fresh:=g'.fresh,obj:=g'.obj,kept:=g.kept
                  env:=fun k => by
                    have:=g'.gh (2 * k)
                    rw [hMgh,ghosts_env] at this
                    exact this
                  gh:=fun k => by
                    have:=g'.gh (2 * k+1)
                    rw [hMgh,ghosts_gh] at this
                    exact this
                  res:=fun b o hb => g'.res b o (hMres b o hb) }
        · rw [hh.1]; exact hh.2
    refine code_ok' hmix m hgood hN hst hrg c he gs fun N' ok1 ρ1 a' w' e' g' => ?_
    obtain ⟨e,st1⟩:=q
    cases e with
    | norm => exact key e' h g'
    | ret => exact key e' h g'
    | exit i => cases h

/-! ### what is used of what calls are known to do -/
inductive Use where
  | t (f : FuncId) (args : List TV) (r : TV)
  | i (f : FuncId) (lo : Nat) (h : Hp) (args : List LV) (r : LV × Hp)
def Use.holds (C : Cs) : Use→Prop
  | .t f args r => C.t f args=some r
  | .i f lo h args r => C.i f lo h args=some r
abbrev Uses:=List Use
def Holds (C : Cs) (L : Uses) : Prop:=∀ x∈L,x.holds C
theorem Holds.left {L M : Uses} (h : Holds C (L++M)) : Holds C L:=fun x hx => h x (by simp [hx])
theorem Holds.right {L M : Uses} (h : Holds C (L++M)) : Holds C M:=fun x hx => h x (by simp [hx])
theorem Holds.append {L M : Uses} (h : Holds C L) (h' : Holds C M) : Holds C (L++M):=fun x hx => by
  rcases List.mem_append.1 hx with hx | hx
  · exact h x hx
  · exact h' x hx

variable {lo : Nat}
theorem callA_uses {d : Nat} {f : FuncId} {st st' : St} {x : Option (List TV × List Nat)} (h : callA C lo d f st x=some st') :
    ∃ L,Holds C L∧∀ C',Holds C' L→callA C' lo d f st x=some st'∧fpCallA C' lo d f x=fpCallA C lo d f x:=by
  cases x with
  | none => cases h
  | some q =>
    obtain ⟨ts,is⟩:=q
    simp only [callA] at h
    cases hr : C.t f ts with
    | none => rw [hr] at h; cases h
    | some r =>
      refine ⟨[.t f ts r],by simpa [Holds,Use.holds] using hr,fun C' hC' => ?_⟩
      have e : C'.t f ts=some r:=hC' (.t f ts r) (by simp)
      rw [hr] at h
      simp only [callA,fpCallA,e,hr]
      exact ⟨h,trivial⟩
theorem icallK_uses {d : Nat} {f : FuncId} {st st' : St} {h : Hp} {ls : List LV} (he : icallK d lo st (C.i f lo h ls)=some st') :
    ∃ L,Holds C L∧∀ C',Holds C' L→icallK d lo st (C'.i f lo h ls)=some st':=by
  cases hr : C.i f lo h ls with
  | none => rw [hr] at he; cases he
  | some r =>
    refine ⟨[.i f lo h ls r],by simpa [Holds,Use.holds] using hr,fun C' hC' => ?_⟩
    have e : C'.i f lo h ls=some r:=hC' (.i f lo h ls r) (by simp)
    rw [e,← hr]; exact he
theorem loneA_uses {d : Nat} {f : FuncId} {st st' : St} {x : Option (List TV × List Nat)} (h : loneA C lo d f st x=some st') :
    ∃ L,Holds C L∧∀ C',Holds C' L→loneA C' lo d f st x=some st'∧fpLoneA C' lo d f x=fpLoneA C lo d f x:=by
  cases x with
  | none => cases h
  | some q =>
    obtain ⟨ts,is⟩:=q
    simp only [loneA] at h
    cases hr : C.t f ts with
    | none => rw [hr] at h; cases h
    | some r =>
      refine ⟨[.t f ts r],by simpa [Holds,Use.holds] using hr,fun C' hC' => ?_⟩
      have e : C'.t f ts=some r:=hC' (.t f ts r) (by simp)
      rw [hr] at h
      simp only [loneA,fpLoneA,e,hr]
      exact ⟨h,trivial⟩
theorem op_uses {o : IOp} {st st' : St} (h : evOp C lo st o=some st') : ∃ L,Holds C L∧∀ C',Holds C' L→evOp C' lo st o=some st'∧fpOp C' lo st o=fpOp C lo st o:=by
  cases o with
  | call d f args =>
    simp only [evOp,fpOp] at h ⊢
    generalize f.rd st.env=l at h ⊢
    unfold callF at h
    split at h
    · simp only [callF,fpCallF]; exact callA_uses h
    · simp only [callF,fpCallF]; exact callA_uses h
    · cases h
  | icall d k f args =>
    simp only [evOp,fpOp] at h ⊢
    generalize f.rd st.env=l at h ⊢
    unfold icallF at h
    split at h
    · split at h
      · rename_i hk
        obtain ⟨L,h1,h2⟩:=loneA_uses h
        exact ⟨L,h1,fun C' hC' => ⟨by simp only [icallF,if_pos hk]; exact (h2 C' hC').1,by simp only [fpICall,if_pos hk]; exact (h2 C' hC').2⟩⟩
      · rename_i hk
        obtain ⟨L,h1,h2⟩:=icallK_uses (lo:=lo+1000000 * k) h
        exact ⟨L,h1,fun C' hC' => ⟨by simp only [icallF,if_neg hk]; exact h2 C' hC',by simp only [fpICall,if_neg hk]⟩⟩
    · split at h
      · rename_i hk
        obtain ⟨L,h1,h2⟩:=loneA_uses h
        exact ⟨L,h1,fun C' hC' => ⟨by simp only [icallF,if_pos hk]; exact (h2 C' hC').1,by simp only [fpICall,if_pos hk]; exact (h2 C' hC').2⟩⟩
      · rename_i hk
        obtain ⟨L,h1,h2⟩:=icallK_uses (lo:=lo+1000000 * k) h
        exact ⟨L,h1,fun C' hC' => ⟨by simp only [icallF,if_neg hk]; exact h2 C' hC',by simp only [fpICall,if_neg hk]⟩⟩
    · cases h
  | _ => exact ⟨[],by simp [Holds],fun C' _ => ⟨h,rfl⟩⟩
theorem oper_uses {o : IOper} {st st' : St} (h : evOper C lo st o=some st') : ∃ L,Holds C L∧∀ C',Holds C' L→evOper C' lo st o=some st'∧fpOper C' lo st o=fpOper C lo st o:=by
  obtain ⟨op,gd⟩:=o
  cases gd with
  | none => exact op_uses h
  | some gd =>
    obtain ⟨j,want⟩:=gd
    simp only [evOper,fpOper] at h ⊢
    generalize st.env j=l at h ⊢
    unfold guardK at h
    split at h
    · split at h
      · rename_i e
        obtain ⟨L,h1,h2⟩:=op_uses h
        refine ⟨L,h1,fun C' hC' => ?_⟩
        obtain ⟨k1,k2⟩:=h2 C' hC'
        simp only [guardK,fpG,e,if_true]
        exact ⟨k1,k2⟩
      · rename_i e
        refine ⟨[],by simp [Holds],fun C' _ => ?_⟩
        simp only [guardK,fpG,e,if_false]
        exact ⟨h,trivial⟩
    · exact ⟨[],by simp [Holds],fun C' _ => ⟨h,rfl⟩⟩
    · cases h
theorem evOps_none (C : Cs) (lo : Nat) (os : List IOper) : evOps C lo os none=none:=by cases os<;>rfl
theorem evOpsD_none (C : Cs) (lo : Nat) (os : List IOper) (ord : List Nat) (i : Nat) (fs : List (Nat × Fp)) : evOpsD C lo os ord i fs none=none:=by cases os<;>cases ord<;>rfl
theorem ops_uses : ∀ {os : List IOper} {st st' : St},evOps C lo os (some st)=some st'→∃ L,Holds C L∧∀ C',Holds C' L→evOps C' lo os (some st)=some st'
  | [],st,st',h => ⟨[],by simp [Holds],fun _ _ => h⟩
  | o :: os, st, st', h => by
    simp only [evOps] at h
    cases h1 : evOper C lo st o with
    | none => rw [h1,evOps_none] at h; cases h
    | some st1 =>
      rw [h1] at h
      obtain ⟨L,k1,k2⟩:=oper_uses h1
      obtain ⟨M,m1,m2⟩:=ops_uses h
      refine ⟨L++M,k1.append m1,fun C' hC' => ?_⟩
      simp only [evOps,(k2 C' hC'.left).1]
      exact m2 C' hC'.right
theorem stepD_cases {fs : List (Nat × Fp)} {i n : Nat} {k : List (Nat × Fp)→Option St→Option St} {x : Option St} {f : Fp} {r : St} (h : stepD fs i n k x f=some r) :
    ∃ fs',k fs' x=some r∧(∀ (k' : List (Nat × Fp)→Option St→Option St) (x' : Option St),stepD fs i n k' x' f=k' fs' x'):=by
  obtain ⟨a,b⟩:=f
  cases a with
  | nil => cases b with
    | nil => exact ⟨fs,h,fun _ _ => rfl⟩
    | cons b w =>
      simp only [stepD,stepE] at h ⊢
      split at h
      · rename_i hh
        exact ⟨_,h,fun _ _ => by rw [if_pos hh]⟩
      · cases h
  | cons a r' =>
    simp only [stepD,stepE] at h ⊢
    split at h
    · rename_i hh
      exact ⟨_,h,fun _ _ => by rw [if_pos hh]⟩
    · cases h
theorem opsD_uses : ∀ {os : List IOper} {ord : List Nat} {i : Nat} {fs : List (Nat × Fp)} {st st' : St},evOpsD C lo os ord i fs (some st)=some st'→∃ L,Holds C L∧∀ C',Holds C' L→evOpsD C' lo os ord i fs (some st)=some st'
  | [],ord,i,fs,st,st',h => ⟨[],by simp [Holds],fun _ _ => h⟩
  | o :: os,[],i,fs,st,st',h => by cases h
  | o :: os, n :: ord, i, fs, st, st', h => by
    simp only [evOpsD] at h
    obtain ⟨fs',h0,hk⟩:=stepD_cases h
    cases h1 : evOper C lo st o with
    | none => rw [h1,evOpsD_none] at h0; cases h0
    | some st1 =>
      rw [h1] at h0
      obtain ⟨L,k1,k2⟩:=oper_uses h1
      obtain ⟨M,m1,m2⟩:=opsD_uses h0
      refine ⟨L++M,k1.append m1,fun C' hC' => ?_⟩
      simp only [evOpsD,(k2 C' hC'.left).1,(k2 C' hC'.left).2]
      rw [hk]
      exact m2 C' hC'.right
theorem idx_uses {ios : List IOper} : ∀ {s : List Nat} {st st' : St},evIdx C lo ios s st=some st'→∃ L,Holds C L∧∀ C',Holds C' L→evIdx C' lo ios s st=some st'
  | [],st,st',h => ⟨[],by simp [Holds],fun _ _ => h⟩
  | i :: s, st, st', h => by
    simp only [evIdx] at h
    cases ho : ios[i]? with
    | none =>
      rw [ho] at h
      obtain ⟨L,k1,k2⟩:=idx_uses h
      exact ⟨L,k1,fun C' hC' => by simp only [evIdx,ho]; exact k2 C' hC'⟩
    | some o =>
      rw [ho] at h
      simp only at h
      cases h1 : evOper C lo st o with
      | none => rw [h1] at h; cases h
      | some st1 =>
        rw [h1] at h
        obtain ⟨L,k1,k2⟩:=oper_uses h1
        obtain ⟨M,m1,m2⟩:=idx_uses h
        refine ⟨L++M,k1.append m1,fun C' hC' => ?_⟩
        simp only [evIdx,ho,(k2 C' hC'.left).1]
        exact m2 C' hC'.right
theorem all_uses {ios : List IOper} {g : GC} {st : St} : ∀ {ss : List (List Nat)} {r : Ex × St},evAll C lo ios g st ss=some r→∃ L,Holds C L∧∀ C',Holds C' L→evAll C' lo ios g st ss=some r
  | [],r,h => by cases h
  | [s], r, h => by
    simp only [evAll] at h
    obtain ⟨st1,h1,rfl⟩:=regK_some h
    obtain ⟨L,k1,k2⟩:=idx_uses h1
    exact ⟨L,k1,fun C' hC' => by simp only [evAll,k2 C' hC']; rfl⟩
  | s :: t :: ss, r, h => by
    simp only [evAll] at h
    obtain ⟨h1,h2⟩:=sameK_some h
    obtain ⟨st1,h3,h4⟩:=regK_some h1
    obtain ⟨L,k1,k2⟩:=idx_uses h3
    obtain ⟨M,m1,m2⟩:=all_uses h2
    refine ⟨L++M,k1.append m1,fun C' hC' => ?_⟩
    simp only [evAll,k2 C' hC'.left,m2 C' hC'.right]
    rw [h4]
    unfold sameK
    rw [if_pos (by simp [regK])]
    rfl
theorem holds_ring {C C' : Cs} (h : ∀ f args,C'.t f args=C.t f args) (hi : ∀ f lo h args,C'.i f lo h args=none) {L : Uses} (hL : Holds C' L) : Holds C L:=fun x hx => by
  have:=hL x hx
  cases x with
  | t f args r => exact (h f args).symm.trans this
  | i f lo h0 args r => exact absurd this (by show ¬ C'.i f lo h0 args=some r; rw [hi]; simp)
theorem holds_ring' {C C' D : Cs} (h : ∀ f args,D.t f args=C.t f args) {L : Uses} (hi : ∀ f lo h args,C'.i f lo h args=none) (hL' : Holds C' L) (hL : Holds C L) : Holds D L:=fun x hx => by
  cases x with
  | t f args r => exact (h f args).trans (hL _ hx)
  | i f lo h0 args r => exact absurd (hL' _ hx) (by show ¬ C'.i f lo h0 args=some r; rw [hi]; simp)
theorem ev_uses : ∀ {n : Nat} {C : Cs} {lo : Nat} {c : ICode} {st : St} {r : Ex × St},ev C lo n c st=some r→∃ L,Holds C L∧∀ C' : Cs,C'.y=C.y→C'.it=C.it→Holds C' L→ev C' lo n c st=some r:=by
  intro n
  induction n with
  | zero => intro C lo c st r h; cases h
  | succ n ih =>
    intro C lo c st r h
    have two : ∀ {x k : ICode},seqK (ev C lo n k) (ev C lo n x st)=some r→∃ L,Holds C L∧∀ C' : Cs,C'.y=C.y→C'.it=C.it→Holds C' L→seqK (ev C' lo n k) (ev C' lo n x st)=some r:=by
      intro x k h
      cases h1 : ev C lo n x st with
      | none => rw [h1] at h; cases h
      | some q =>
        rw [h1] at h
        obtain ⟨L,k1,k2⟩:=ih h1
        obtain ⟨e,st1⟩:=q
        cases e with
        | norm =>
          obtain ⟨M,m1,m2⟩:=ih (show ev C lo n k st1=some r from h)
          refine ⟨L++M,k1.append m1,fun C' hy hi hC' => ?_⟩
          rw [k2 C' hy hi hC'.left]
          exact m2 C' hy hi hC'.right
        | exit i => exact ⟨L,k1,fun C' hy hi hC' => by rw [k2 C' hy hi hC']; exact h⟩
        | ret => exact ⟨L,k1,fun C' hy hi hC' => by rw [k2 C' hy hi hC']; exact h⟩
    cases c with
    | skip => exact ⟨[],by simp [Holds],fun _ _ _ _ => h⟩
    | gc g => exact ⟨[],by simp [Holds],fun _ _ _ _ => h⟩
    | region ops g =>
      simp only [ev] at h
      obtain ⟨st1,h1,rfl⟩:=regK_some h
      obtain ⟨L,k1,k2⟩:=ops_uses h1
      exact ⟨L,k1,fun C' _ _ hC' => by simp only [ev,k2 C' hC']; rfl⟩
    | draw ops ord g =>
      simp only [ev] at h
      obtain ⟨st1,h1,rfl⟩:=regK_some h
      obtain ⟨L,k1,k2⟩:=opsD_uses h1
      exact ⟨L,k1,fun C' _ _ hC' => by simp only [ev,k2 C' hC']; rfl⟩
    | draws ops ss g =>
      simp only [ev] at h
      obtain ⟨L,k1,k2⟩:=all_uses h
      exact ⟨L,k1,fun C' _ _ hC' => by simp only [ev]; exact k2 C' hC'⟩
    | seq a b => exact two h
    | loop b => exact two h
    | cond c a b =>
      simp only [ev] at h ⊢
      generalize c.rd st.env=l at h ⊢
      unfold condK at h
      split at h
      · split at h
        · rename_i hc; obtain ⟨L,k1,k2⟩:=ih h; exact ⟨L,k1,fun C' hy hi hC' => by simp only [condK,hc,if_true]; exact k2 C' hy hi hC'⟩
        · rename_i hc; obtain ⟨L,k1,k2⟩:=ih h; exact ⟨L,k1,fun C' hy hi hC' => by simp only [condK,hc]; exact k2 C' hy hi hC'⟩
      · cases h
    | block id b =>
      simp only [ev] at h
      cases h1 : ev C lo n b st with
      | none => rw [h1] at h; cases h
      | some q =>
        rw [h1] at h
        obtain ⟨L,k1,k2⟩:=ih h1
        exact ⟨L,k1,fun C' hy hi hC' => by simp only [ev,k2 C' hy hi hC']; exact h⟩
    | exit id => exact ⟨[],by simp [Holds],fun _ _ _ _ => h⟩
    | ret => exact ⟨[],by simp [Holds],fun _ _ _ _ => h⟩
    | bad => cases h
    | rng x p ac bd g ks =>
      simp only [ev] at h
      cases hq : itF C (x.rd (g.run lo st).env) with
      | none => rw [hq] at h; cases h
      | some q =>
        obtain ⟨c,caps⟩:=q
        rw [hq] at h
        simp only [rngK] at h
        cases h1 : ev (C.ring ⟨.seq ac bd,p,(g.run lo st).env,lo,ks⟩) (lo+1000000) n c ⟨bindL 1 caps,(g.run lo st).hp⟩ with
        | none => rw [h1] at h; cases h
        | some z =>
          rw [h1] at h
          obtain ⟨L,k1,k2⟩:=ih h1
          refine ⟨L,holds_ring (C:=C) (C':=C.ring _) (fun _ _ => rfl) (fun _ _ _ _ => rfl) k1,fun C' hy hi hC' => ?_⟩
          have hq' : itF C' (x.rd (g.run lo st).env)=some (c,caps):=by
            rw [← hq]; unfold itF; rw [hi]
          simp only [ev,hq',rngK]
          rw [k2 (C'.ring _) rfl hi (holds_ring' (C:=C') (C':=C.ring _) (D:=C'.ring _) (fun _ _ => rfl) (fun _ _ _ _ => rfl) k1 hC')]
          exact h
    | yld d a o x g =>
      simp only [ev] at h
      cases hR : C.y with
      | none => rw [hR] at h; cases h
      | some R =>
        cases hq : evOps C lo [o] (some (st.set a .u)) with
        | none => rw [hR,hq] at h; cases h
        | some st1 =>
          rw [hR,hq] at h
          simp only [yldK] at h
          cases h1 : ev C.unring R.lo n R.bd ⟨upd R.env R.p (x.rd st1.env),st1.hp⟩ with
          | none => rw [h1] at h; cases h
          | some z =>
            rw [h1] at h
            obtain ⟨L,k1,k2⟩:=ops_uses hq
            obtain ⟨M,m1,m2⟩:=ih h1
            refine ⟨L++M,k1.append (holds_ring (C:=C) (C':=C.unring) (fun _ _ => rfl) (fun _ _ _ _ => rfl) m1),fun C' hy hi hC' => ?_⟩
            simp only [ev,hy,hR,k2 C' hC'.left,yldK]
            rw [m2 C'.unring rfl hi (holds_ring' (C:=C') (C':=C.unring) (D:=C'.unring) (fun _ _ => rfl) (fun _ _ _ _ => rfl) m1 hC'.right)]
            exact h
end

theorem orcK_some {k : TV→Option TV} {x : Option TV} {r : TV} (h : orcK k x=some r) : ∃ y,x=some y∧k y=some r:=by
  cases x with
  | none => cases h
  | some y => exact ⟨y,rfl,h⟩
theorem orc_uses {C : Cs} : ∀ (o : Orc) {r : TV},o.run C.t=some r→∃ L,Holds C L∧∀ C' : Cs,Holds C' L→o.run C'.t=some r
  | .done x,r,h => ⟨[],by simp [Holds],fun _ _ => h⟩
  | .ask f args k, r, h => by
    obtain ⟨y,h1,h2⟩:=orcK_some h
    obtain ⟨L,k1,k2⟩:=orc_uses (k y) h2
    refine ⟨.t f args y :: L,fun x hx => ?_,fun C' hC' => ?_⟩
    · rcases List.mem_cons.1 hx with rfl | hx
      · exact h1
      · exact k1 x hx
    · have e : C'.t f args = some y := hC' (.t f args y) (by simp)
      simp only [Orc.run,e,orcK]
      exact k2 C' fun x hx => hC' x (by simp [hx])
/-! ### functions that call one another -/
section
variable (F : FuncId→Option FEnt)

theorem finR_some {rs : List RV} {x : Option (Ex × St)} {r : TV} (h : finR rs x=some r) : ∃ q,x=some q∧finR rs (some q)=some r:=by
  cases x with
  | none => cases h
  | some q => exact ⟨q,rfl,h⟩
theorem finI_some {rs : List RV} {x : Option (Ex × St)} {r : LV × Hp} (h : finI rs x=some r) : ∃ q,x=some q∧finI rs (some q)=some r:=by
  cases x with
  | none => cases h
  | some q => exact ⟨q,rfl,h⟩

theorem evF_t (n : Nat) (f : FuncId) (args : List TV) : (evF F (n+1)).t f args=evFn (evF F n) n args (F f):=rfl
theorem evF_i (n : Nat) (f : FuncId) (lo : Nat) (h : Hp) (args : List LV) : (evF F (n+1)).i f lo h args=evFnI (evF F n) n lo h args (F f):=rfl
theorem evF_y (n : Nat) : (evF F n).y=none:=by cases n<;>rfl
theorem evF_it (n : Nat) : (evF F n).it=fun f => bodyOf (F f):=by cases n<;>rfl
theorem evF_step : ∀ (n : Nat) (u : Use),u.holds (evF F n)→u.holds (evF F (n+1))
  | 0,.t f args r,h => by cases h
  | 0,.i f lo h0 args r,h => by cases h
  | n + 1, .t f args r, h => by
    simp only [Use.holds,evF_t] at h ⊢
    cases hf : F f with
    | none => rw [hf] at h; cases h
    | some e =>
      rw [hf] at h
      cases e with
      | ext g => exact h
      | inn g => cases h
      | rel g =>
        simp only [evFn] at h ⊢
        obtain ⟨L,k1,k2⟩:=orc_uses _ h
        exact k2 _ fun x hx => evF_step n x (k1 x hx)
      | code fn =>
        simp only [evFn] at h ⊢
        obtain ⟨q,h1,h2⟩:=finR_some h
        obtain ⟨L,k1,k2⟩:=ev_uses h1
        have k3 : Holds (evF F (n+1)) L:=fun x hx => evF_step n x (k1 x hx)
        rw [ev_step _ _ _ _ _ _ (k2 _ (by rw [evF_y,evF_y]) (by rw [evF_it,evF_it]) k3)]
        exact h2
  | n + 1, .i f lo h0 args r, h => by
    simp only [Use.holds,evF_i] at h ⊢
    cases hf : F f with
    | none => rw [hf] at h; cases h
    | some e =>
      rw [hf] at h
      cases e with
      | ext g => cases h
      | rel g => cases h
      | inn g => exact h
      | code fn =>
        simp only [evFnI] at h ⊢
        obtain ⟨q,h1,h2⟩:=finI_some h
        obtain ⟨L,k1,k2⟩:=ev_uses h1
        have k3 : Holds (evF F (n+1)) L:=fun x hx => evF_step n x (k1 x hx)
        rw [ev_step _ _ _ _ _ _ (k2 _ (by rw [evF_y,evF_y]) (by rw [evF_it,evF_it]) k3)]
        exact h2
theorem evF_le {n m : Nat} (hnm : n≤m) {u : Use} (h : u.holds (evF F n)) : u.holds (evF F m):=by
  induction hnm with
  | refl => exact h
  | step _ ih => exact evF_step F _ _ ih

open Classical in
noncomputable def call (f : FuncId) (args : List TV) : Option TV:=if h : ∃ r n,(evF F n).t f args=some r then some h.choose else none
open Classical in
noncomputable def calli (f : FuncId) (lo : Nat) (h0 : Hp) (args : List LV) : Option (LV × Hp):=if h : ∃ r n,(evF F n).i f lo h0 args=some r then some h.choose else none
noncomputable def cs : Cs:=⟨call F,calli F,none,fun f => bodyOf (F f)⟩
@[go_sem] theorem cs_t (f : FuncId) (args : List TV) : (cs F).t f args=call F f args:=rfl
@[go_sem] theorem cs_i (f : FuncId) (lo : Nat) (h0 : Hp) (args : List LV) : (cs F).i f lo h0 args=calli F f lo h0 args:=rfl

theorem call_some {f : FuncId} {args : List TV} {r : TV} : call F f args=some r↔∃ n,(evF F n).t f args=some r:=by
  unfold call
  split
  · rename_i h
    constructor
    · intro hr; rw [← Option.some.inj hr]; exact h.choose_spec
    · rintro ⟨n, hn⟩
      obtain ⟨m,hm⟩:=h.choose_spec
      have a : (evF F (max n m)).t f args=some r:=evF_le F (Nat.le_max_left n m) (u:=.t f args r) hn
      have b:=evF_le F (Nat.le_max_right n m) (u:=.t f args h.choose) hm
      have b : (evF F (max n m)).t f args=some h.choose:=b
      rw [a] at b
      exact b.symm
  · rename_i h
    constructor
    · intro hr; cases hr
    · rintro ⟨n,hn⟩; exact absurd ⟨r,n,hn⟩ h
theorem calli_some {f : FuncId} {lo : Nat} {h0 : Hp} {args : List LV} {r : LV × Hp} : calli F f lo h0 args=some r↔∃ n,(evF F n).i f lo h0 args=some r:=by
  unfold calli
  split
  · rename_i h
    constructor
    · intro hr; rw [← Option.some.inj hr]; exact h.choose_spec
    · rintro ⟨n, hn⟩
      obtain ⟨m,hm⟩:=h.choose_spec
      have a : (evF F (max n m)).i f lo h0 args=some r:=evF_le F (Nat.le_max_left n m) (u:=.i f lo h0 args r) hn
      have b:=evF_le F (Nat.le_max_right n m) (u:=.i f lo h0 args h.choose) hm
      have b : (evF F (max n m)).i f lo h0 args=some h.choose:=b
      rw [a] at b
      exact b.symm
  · rename_i h
    constructor
    · intro hr; cases hr
    · rintro ⟨n,hn⟩; exact absurd ⟨r,n,hn⟩ h
theorem use_some (u : Use) : u.holds (cs F)↔∃ n,u.holds (evF F n):=by
  cases u with
  | t f args r => exact call_some F
  | i f lo h0 args r => exact calli_some F

theorem holds_call : ∀ {L : Uses},Holds (cs F) L→∃ n,Holds (evF F n) L
  | [],_ => ⟨0,by simp [Holds]⟩
  | x :: L, h => by
    obtain ⟨n,hn⟩:=(use_some F x).1 (h x (by simp))
    obtain ⟨m,hm⟩:=holds_call (L:=L) fun y hy => h y (by simp [hy])
    refine ⟨max n m,fun y hy => ?_⟩
    rcases List.mem_cons.1 hy with rfl | hy
    · exact evF_le F (Nat.le_max_left n m) hn
    · exact evF_le F (Nat.le_max_right n m) (hm y hy)

theorem call_code {f : FuncId} {fn : IFn} (hf : F f=some (.code fn)) (args : List TV) : call F f args=finR fn.res (E (cs F) 0 fn.body (start args)):=by
  refine opt_ext fun r => ?_
  rw [call_some]
  constructor
  · rintro ⟨n, hn⟩
    cases n with
    | zero => cases hn
    | succ n =>
      simp only [evF_t,hf,evFn] at hn
      obtain ⟨q,h1,h2⟩:=finR_some hn
      obtain ⟨L,k1,k2⟩:=ev_uses h1
      have k3 : Holds (cs F) L:=fun x hx => (use_some F x).2 ⟨n,k1 x hx⟩
      rw [E_of _ _ (k2 (cs F) (evF_y F n).symm (evF_it F n).symm k3)]
      exact h2
  · intro h
    obtain ⟨q,h1,h2⟩:=finR_some h
    obtain ⟨n,hn⟩:=(E_some _ _).1 h1
    obtain ⟨L,k1,k2⟩:=ev_uses hn
    obtain ⟨m,hm⟩:=holds_call F k1
    refine ⟨max n m+1,?_⟩
    simp only [evF_t,hf,evFn]
    have k3 : Holds (evF F (max n m)) L:=fun x hx => evF_le F (Nat.le_max_right n m) (hm x hx)
    rw [ev_le _ _ (Nat.le_max_left n m) (k2 _ (evF_y F _) (evF_it F _) k3)]
    exact h2
theorem calli_code {f : FuncId} {fn : IFn} (hf : F f=some (.code fn)) (lo : Nat) (h0 : Hp) (args : List LV) : calli F f lo h0 args=finI fn.res (E (cs F) lo fn.body (startI args h0)):=by
  refine opt_ext fun r => ?_
  rw [calli_some]
  constructor
  · rintro ⟨n, hn⟩
    cases n with
    | zero => cases hn
    | succ n =>
      simp only [evF_i,hf,evFnI] at hn
      obtain ⟨q,h1,h2⟩:=finI_some hn
      obtain ⟨L,k1,k2⟩:=ev_uses h1
      have k3 : Holds (cs F) L:=fun x hx => (use_some F x).2 ⟨n,k1 x hx⟩
      rw [E_of _ _ (k2 (cs F) (evF_y F n).symm (evF_it F n).symm k3)]
      exact h2
  · intro h
    obtain ⟨q,h1,h2⟩:=finI_some h
    obtain ⟨n,hn⟩:=(E_some _ _).1 h1
    obtain ⟨L,k1,k2⟩:=ev_uses hn
    obtain ⟨m,hm⟩:=holds_call F k1
    refine ⟨max n m+1,?_⟩
    simp only [evF_i,hf,evFnI]
    have k3 : Holds (evF F (max n m)) L:=fun x hx => evF_le F (Nat.le_max_right n m) (hm x hx)
    rw [ev_le _ _ (Nat.le_max_left n m) (k2 _ (evF_y F _) (evF_it F _) k3)]
    exact h2
theorem call_ext {f : FuncId} {g : List TV→Option TV} (hf : F f=some (.ext g)) (args : List TV) : call F f args=g args:=by
  refine opt_ext fun r => ?_
  rw [call_some]
  constructor
  · rintro ⟨n, hn⟩
    cases n with
    | zero => cases hn
    | succ n => simpa only [evF_t,hf,evFn] using hn
  · intro h
    exact ⟨1,by simpa only [evF_t,hf,evFn] using h⟩
theorem calli_inn {f : FuncId} {g : Nat→Hp→List LV→Option (LV × Hp)} (hf : F f=some (.inn g)) (lo : Nat) (h0 : Hp) (args : List LV) : calli F f lo h0 args=g lo h0 args:=by
  refine opt_ext fun r => ?_
  rw [calli_some]
  constructor
  · rintro ⟨n, hn⟩
    cases n with
    | zero => cases hn
    | succ n => simpa only [evF_i,hf,evFnI] using hn
  · intro h
    exact ⟨1,by simpa only [evF_i,hf,evFnI] using h⟩
theorem call_rel {f : FuncId} {g : List TV→Orc} (hf : F f=some (.rel g)) (args : List TV) : call F f args=(g args).run (call F):=by
  refine opt_ext fun r => ?_
  rw [call_some]
  constructor
  · rintro ⟨n, hn⟩
    cases n with
    | zero => cases hn
    | succ n =>
      simp only [evF_t,hf,evFn] at hn
      obtain ⟨L,k1,k2⟩:=orc_uses _ hn
      exact k2 (cs F) fun x hx => (use_some F x).2 ⟨n,k1 x hx⟩
  · intro h
    obtain ⟨L,k1,k2⟩:=orc_uses (C:=cs F) _ h
    obtain ⟨m,hm⟩:=holds_call F k1
    exact ⟨m+1,by simp only [evF_t,hf,evFn]; exact k2 _ hm⟩

def chk (P : Program) (f : FuncId) (A B : List (Nat × GC)) : Option IFn :=
  match P.funcs[f]? with
  | some fn => if (fn.name == "runtime.NumGoroutine")=false∧fn.body.isNone=false then some (cFn P A B fn) else none
  | none => none
def SoundI (P : Program) (f : FuncId) (lo : Nat) (h : Hp) (args : List LV) (l : LV) (h' : Hp) : Prop:=FnOK P f ∧
  ∀ (N : Rm) (w0 : World) (ok0 : Nat→Prop) (env : Nat→LV) (ok : Nat→Prop) (ρ : Rho) (a : Act) (w : World) (vs : List Value),Gam N w0 ok0 ⟨env,h⟩ ok ρ a w→(∀ k,maskL lo [] (env k)=env k)→(∀ k,maskL lo [] (N.gh k).1=(N.gh k).1) →
    LReps w ok ρ h false args vs→Calls P f vs.toArray w fun e w' => ∃ v,e=.returned v∧∃ ok' ρ',Gam N w0 ok0 ⟨env,h'⟩ ok' ρ' a w'∧LRep w' ok' ρ' h' l v
def EntOK (P : Program) (f : FuncId) : FEnt→Prop
  | .code fn => ∃ A B,chk P f A B=some fn
  | .ext g => ∀ args r,g args=some r→Sound P f args r
  | .rel g => ∀ C,Good P C→∀ args r,(g args).run C.t=some r→Sound P f args r
  | .inn g => ∀ lo h args l h',g lo h args=some (l,h')→SoundI P f lo h args l h'

theorem call_good {P : Program} (hmix : P.follows .mixedOrders=true) (hF : ∀ f e,F f=some e→EntOK P f e) : Good P (cs F):=by
  have code : ∀ {f : FuncId} {fn : IFn},EntOK P f (.code fn)→∃ gf A B c,P.funcs[f]?=some gf∧(gf.name == "runtime.NumGoroutine")=false∧gf.body=some c∧fn=cFn P A B gf:=by
    rintro f fn ⟨A,B,hc⟩
    unfold chk at hc
    split at hc
    · rename_i gf hg
      split at hc
      · rename_i hh
        obtain rfl:=Option.some.inj hc
        cases hb : gf.body with
        | none => rw [hb] at hh; simp at hh
        | some c => exact ⟨gf,A,B,c,hg,hh.1,hb,rfl⟩
      · cases hc
    · cases hc
  have hit : GoodIt P fun f => bodyOf (F f):=by
    intro f ic h
    have h : bodyOf (F f)=some ic:=h
    cases hf : F f with
    | none => rw [hf] at h; cases h
    | some e =>
      rw [hf] at h
      have he:=hF f e hf
      cases e with
      | code fn =>
        obtain ⟨gf,A,B,c,k1,k2,k3,rfl⟩:=code he
        simp only [bodyOf] at h
        split at h
        · rename_i hr
          refine ⟨gf,c,A,B,k1,k2,k3,(Option.some.inj h).symm,?_⟩
          simp only [cFn,List.isEmpty_iff,List.map_eq_nil_iff] at hr
          apply Array.ext'
          simpa using hr
        · cases h
      | _ => cases h
  have key : ∀ n,Good P (evF F n):=by
    intro n
    induction n with
    | zero => exact ⟨fun f args r h => (by cases h),fun f lo h0 args l h' h => (by cases h),hit⟩
    | succ n ih =>
      refine ⟨?_,?_,by rw [evF_it]; exact hit⟩
      · intro f args r h
        simp only [evF_t] at h
        cases hf : F f with
        | none => rw [hf] at h; cases h
        | some e =>
          rw [hf] at h
          have he:=hF f e hf
          cases e with
          | ext g => exact he args r h
          | rel g => exact he _ ih args r h
          | inn g => cases h
          | code fn =>
            obtain ⟨gf,A,B,c,k1,k2,k3,rfl⟩:=code he
            exact fn_ok ih (evF_y F n) hmix k1 k2 k3 h
      · intro f lo h0 args l h' h
        simp only [evF_i] at h
        cases hf : F f with
        | none => rw [hf] at h; cases h
        | some e =>
          rw [hf] at h
          have he:=hF f e hf
          cases e with
          | ext g => cases h
          | rel g => cases h
          | inn g => exact he lo h0 args l h' h
          | code fn =>
            obtain ⟨gf,A,B,c,k1,k2,k3,rfl⟩:=code he
            exact fnI_ok ih (evF_y F n) hmix k1 k2 k3 h
  refine ⟨?_,?_,hit⟩
  · intro f args r h
    obtain ⟨n,hn⟩:=(call_some F).1 h
    exact (key n).1 f args r hn
  · intro f lo h0 args l h' h
    obtain ⟨n,hn⟩:=(calli_some F).1 h
    exact (key n).2.1 f lo h0 args l h' hn
end
end Go.Proofs.Ytcecojdeljbjoaa.Sx
namespace Go.Proofs.Ytcecojdeljbjoaa.Sx
open Go Go.RowKit Go.ChangeMaps

def entL (kag vag : Bool) (x : List TV × List TV) : Option LV:=match packL kag (liftV x.1),packL vag (liftV x.2) with
  | some k,some v => some (.tup [k,v])
  | _,_ => none
def MRP (es : List (List TV × List TV)) (run : (List TV × List TV)→St→St→Prop) (inv K : St→Prop) : Nat→List Nat→St→Prop
  | 0,left,st => inv st∧left=[]∧K st
  | k+1,left,st => inv st∧left.length=k+1∧∀ i∈left,∃ x st',es[i]?=some x∧run x st st'∧MRP es run inv K k (left.erase i) st'

section
variable {P : Program} {C : Cs}
theorem with_with (N : Rm) (r : Nat) (o o' : Obj) : (N.with r o).with r o'=N.with r o':=by
  unfold Rm.with
  congr 1
  funext k
  unfold upd
  by_cases e : k=r<;>simp [e]
theorem with_self {N : Rm} {r : Nat} {o : Obj} (h : N.res r=some o) : N.with r o=N:=by
  cases N
  unfold Rm.with
  congr 1
  funext k
  unfold upd
  split
  · rename_i e; subst e; exact h.symm
  · rfl
theorem Ext.with {A B : Rm} {r : Nat} {o : Obj} (h : A.res r=some o) (e : Ext A B) (o1 : Obj) : Ext (A.with r o1) (B.with r o1):=by
  refine Ext.turn (with_at A r o1) (o1:=o) ?_
  rw [with_with,with_self h]
  exact e
theorem ents_get {w : World} {ok : Nat→Prop} {kag vag : Bool} : ∀ {xs : List (List TV × List TV)} {es : List MapEntry},EntsRep w ok kag vag xs es→∀ (i : Nat) (e : MapEntry),es[i]?=some e→∃ x,xs[i]?=some x∧PackRep w ok kag x.1 e.key∧PackRep w ok vag x.2 e.val
  | [], es, h, i, e, hi => by
    have h : es=[]:=h
    subst h; simp at hi
  | x :: r, es, h, i, e, hi => by
    obtain ⟨e0,r',rfl,h2,h3,h4⟩:=h
    cases i with
    | zero =>
      simp only [List.getElem?_cons_zero,Option.some.injEq] at hi
      subst hi
      exact ⟨x,rfl,h2,h3⟩
    | succ i => exact ents_get h4 i e (by simpa using hi)
theorem ent_lrep {w : World} {ok : Nat→Prop} {ρ : Rho} {h : Hp} {kag vag : Bool} {x : List TV × List TV} {kv vv : Value} (h1 : PackRep w ok kag x.1 kv) (h2 : PackRep w ok vag x.2 vv) {l : LV} (hl : entL kag vag x=some l) : LRep w ok ρ h l (.tuple #[kv,vv]):=by
  unfold entL at hl
  split at hl
  · rename_i k v hk hv
    obtain rfl:=Option.some.inj hl
    simp only [LRep]
    refine ⟨#[kv,vv],rfl,?_⟩
    simp only [LReps]
    exact ⟨kv,[vv],rfl,by simp,pack_lrep h1 hk,vv,[],rfl,by simp,pack_lrep h2 hv,rfl⟩
  · cases hl

theorem range_shift (n : Nat) : (List.range n).map Nat.succ=List.range' 1 n:=by
  refine List.ext_getElem (by simp) fun i h1 h2 => ?_
  simp
  omega
def Rm.ranging (N : Rm) (it r idm b : Nat) (m o : Obj) : Rm:={ N with K:=fun s => decide (s=it),T:=fun _ => .pointer (some ⟨r,0,none⟩),gh:=fun _ => (.m idm,.map (some b)),res:=upd (upd N.res b (some m)) r (some o) }

structure Head (C : Cs) (P : Program) (N : Rm) (w0 : World) (ok0 : Nat→Prop) (run : (List TV × List TV)→St→St→Prop) (ents : List (List TV × List TV)) (kag vag : Bool) (es : Array MapEntry) (clock it r idm b : Nat) (K : St→Prop)
    (k : Nat) (a : Act) (w : World) : Prop where
  ex : ∃ (left : List Nat) (seen : Array Nat) (N' : Rm) (st : St) (ok : Nat→Prop) (ρ : Rho),MRP ents run (fun st => st.hp idm=some (.map true kag vag ents)) K k left st ∧
    N'.res r=some (.mapIter (some b) clock seen clock)∧Ext (N.ranging it r idm b (.map es clock) (.mapIter (some b) clock #[] clock)) (N'.with r (.mapIter (some b) clock #[] clock)) ∧
    Gam N' w0 ok0 st ok ρ a w∧(∀ i,i∈left↔∃ e,es[i]?=some e∧seen.contains e.born=false)∧left.Nodup

theorem mloop_ok (hmix : P.follows .mixedOrders=true) (hC : Good P C) (hy : C.y=none) {N : Rm} {w0 : World} {ok0 : Nat→Prop} {n1 : Sl} {A1 B1 : List (Nat × GC)} {idm b r it nxs mo pr out nx i14 i15 : Nat}
    {kag vag : Bool} {ents : List (List TV × List TV)} {es : Array MapEntry} {clock : Nat}
    (hidm : idm < 1000000) (hn1 : n1.rg=false) (hle : ∀ N' : Rm,N'.n=N.n→(∀ s,N'.K s=decide (s=it))→n1.le N') (hrb : r≠b)
    (hmay : n1.may nxs=true∧n1.may mo=true∧n1.may pr=true)
    (hA : ∀ id,(look id A1).ok=true→maskL 0 (look id A1).ids (.m idm)=.m idm) (hB : ∀ id,(look id B1).ok=true→maskL 0 (look id B1).ids (.m idm)=.m idm)
    (ok14 : (look i14 A1).ok=true) (ok15 : (look i15 A1).ok=true) (okO : (look out B1).ok=true)
    {ops15 : Array Oper} {o14a o14b o15a : Oper} {os15 : List Oper} {bd : Code}
    (r14a : o14a.op=.next (.tmp it) false∧o14a.dst=some nxs∧o14a.guard=none) (r14b : o14b.op=.extract (.tmp nxs) 0∧o14b.dst=some mo∧o14b.guard=none)
    (e15 : ops15.toList=o15a :: os15) (r15 : o15a.op=.entry (.tmp it)∧o15a.dst=some pr∧o15a.guard=none)
    (hbn : (es.toList.map (·.born)).Nodup) (hbc : ∀ e∈es.toList,e.born < clock)
    {K : St→Prop} {Q : Exit→Act→World→Prop}
    (hQ : ∀ {N' : Rm} {st : St} {ok : Nat→Prop} {ρ : Rho} {a : Act} {w : World} {seen : Array Nat},K st→N'.res r=some (.mapIter (some b) clock seen clock)→Ext (N.ranging it r idm b (.map es clock) (.mapIter (some b) clock #[] clock)) (N'.with r (.mapIter (some b) clock #[] clock)) →
      Gam N' w0 ok0 ((look out B1).run 0 ((look i14 A1).run 0 ((st.set nxs .u).set mo (.v (.bool false))))) ok ρ a w→Q .normal a w)
    {k : Nat} {a : Act} {w : World}
    (h0 : Head C P N w0 ok0 (fun x st st' => ∃ l,entL kag vag x=some l∧E C 0 (.seq (.region (cOpers P n1 ops15 os15) (look i15 A1)) (cCode P n1 A1 B1 bd)) (((look i14 A1).run 0 ((st.set nxs .u).set mo (.v (.bool true)))).set pr l)=some (.norm,st')) ents kag vag es clock it r idm b K k a w) :
    (Code.block out (.loop (.seq (.region i14 #[o14a,o14b] false) (.seq (.cond (.tmp mo) .skip (.exit out)) (.block nx (.seq (.region i15 ops15 false) bd)))))).wpIn (FR none) 0 P Q a w:=by
  refine wpIn_block (wp_loop_fuel (fun k a w => Head C P N w0 ok0 _ ents kag vag es clock it r idm b K k a w) h0 ?_)
  clear h0 a w k
  rintro k a w ⟨left,seen,N',st,ok,ρ,hM,hres,hext,g,hleft,hnd⟩
  -- the room
  have hK : ∀ s,N'.K s=decide (s=it):=fun s => by
    have:=hext.K
    have e : (N'.with r (.mapIter (some b) clock #[] clock)).K=N'.K:=rfl
    rw [e] at this
    rw [this]; rfl
  have hT : ∀ s,N'.T s=.pointer (some ⟨r,0,none⟩):=fun s => by
    have:=hext.T
    have e : (N'.with r (.mapIter (some b) clock #[] clock)).T=N'.T:=rfl
    rw [e] at this
    rw [this]; rfl
  have hgh : ∀ k,N'.gh k=(.m idm,.map (some b)):=fun k => by
    have:=hext.gh
    have e : (N'.with r (.mapIter (some b) clock #[] clock)).gh=N'.gh:=rfl
    rw [e] at this
    rw [this]; rfl
  have hn : N'.n=N.n:=hext.n
  have hresb : N'.res b=some (.map es clock):=by
    have:=hext.res b (.map es clock) (by show upd (upd N.res b _) r _ b=_; rw [upd_ne _ _ (fun e => hrb e.symm),upd_same])
    rwa [with_ne _ _ (fun e => hrb e.symm)] at this
  have hleN:=hle N' hn hK
  have hr:=(g.res r _ hres).2.1
  have hbW:=(g.res b _ hresb).2.1
  have hev : a.tmps.getD it undef=.pointer (some ⟨r,0,none⟩):=by rw [g.kept it (by rw [hK]; simp),hT]
  have stk : ∀ {A : List (Nat × GC)},(∀ id,(look id A).ok=true→maskL 0 (look id A).ids (.m idm)=.m idm)→∀ {M : Rm},(∀ k,M.gh k=(.m idm,.map (some b)))→∀ id,(look id A).ok=true→∀ k,maskL 0 (look id A).ids (M.gh k).1=(M.gh k).1:=fun h M hM id hok k => by rw [hM]; exact h id hok
  have may : ∀ {d},n1.may d=true→∀ {M : Rm},M.n=N.n→(∀ s,M.K s=decide (s=it))→M.may d:=fun hd M h1 h2 => (hle M h1 h2).2.1 _ hd
  have hinv : st.hp idm=some (.map true kag vag ents):=by
    cases k with
    | zero => exact hM.1
    | succ k => exact hM.1
  have hents : EntsRep w ok kag vag ents es.toList:=by
    have h1:=g.gh 0
    rw [hgh] at h1
    simp only [LRep,hinv,MRep] at h1
    obtain ⟨b',K',h2,h3⟩:=h1
    have hb : b=b':=by simpa using h3
    subst hb
    have h4:=g.obj idm _ hinv
    obtain ⟨b'',K'',es',cl',q1,q2,q3,_⟩:=h4
    rw [h2] at q1
    have : b=b'':=congrArg Prod.fst (Option.some.inj q1)
    subst this
    rw [hbW] at q2
    have:=Option.some.inj q2
    simp only [Obj.map.injEq] at this
    rw [this.1]; exact q3
  refine wpIn_seq (wpIn_region ?_)
  show (if Region.wanted o14a _ then o14a.wpIn (FR none) 0 P a w (wpOpsIn (FR none) 0 P #[o14a,o14b] _ [1]) _ else _)
  rw [if_pos (by simp [Region.wanted,r14a.2.2])]
  rcases run_next_at (P:=P) w o14a.type r b clock clock seen es clock hr hbW hbc (Nat.le_refl _) with ⟨hz,hrun⟩ | ⟨e,he,w1,hw1,hrun⟩
  · -- nothing is left
    have hk : k=0∧K st:=by
      cases k with
      | zero => exact ⟨rfl,hM.2.2⟩
      | succ k =>
        exfalso
        obtain ⟨_,hl,_⟩:=hM
        cases left with
        | nil => simp at hl
        | cons i left =>
          obtain ⟨e,h1,h2⟩:=(hleft i).1 (by simp)
          have : e∈(leftOf es seen).toList:=by
            unfold leftOf
            simp only [Array.toList_filter,List.mem_filter,Array.mem_toList_iff]
            exact ⟨Array.mem_of_getElem? h1,by rw [h2]; rfl⟩
          have h3:=Array.mem_toList_iff.1 this
          have h4 : leftOf es seen=#[]:=Array.eq_empty_of_size_eq_zero hz
          rw [h4] at h3
          simp at h3
    obtain ⟨rfl,hKst⟩:=hk
    have hx1 : (execOp a.eval o14a).run P w=.ok (.value (.tuple #[.bool false])) w:=by
      have hev' : a.eval (.tmp it)=.pointer (some ⟨r,0,none⟩):=hev
      simp [execOp,r14a.1,hev',hrun]
    refine wp_val hx1 ?_
    rw [r14a.2.1]
    have g1:=g.put (may hmay.1 hn hK) (l:=.u) (v:=.tuple #[.bool false]) (by simp only [LRep])
    show (if Region.wanted o14b _ then o14b.wpIn (FR none) 0 P (a.put (some nxs) (.tuple #[.bool false])) w (wpOpsIn (FR none) 0 P #[o14a,o14b] _ []) _ else _)
    rw [if_pos (by simp [Region.wanted,r14b.2.2])]
    have hev2 : (a.put (some nxs) (.tuple #[.bool false])).tmps.getD nxs undef=.tuple #[.bool false]:=by rw [put_getD _ _ _ _ (by rw [g.size]; exact (may hmay.1 hn hK).1),if_pos rfl]
    have hx2 : (execOp (a.put (some nxs) (.tuple #[.bool false])).eval o14b).run P w=.ok (.value (.bool false)) w:=by
      have hev2' : (a.put (some nxs) (.tuple #[.bool false])).eval (.tmp nxs)=.tuple #[.bool false]:=hev2
      simp [execOp,r14b.1,hev2',Instr.extract]
    refine wp_val hx2 ?_
    rw [r14b.2.1]
    have g2:=g1.put (may hmay.2.1 hn hK) (l:=.v (.bool false)) (v:=.bool false) (by simp only [LRep,TRep])
    have g3:=g2.gc ok14 (stk hA hgh i14 ok14)
    have g4:=g3.gc okO (stk hB hgh out okO)
    have hcv : ((a.put (some nxs) (.tuple #[.bool false])).put (some mo) (.bool false)).tmps.getD mo undef=.bool false:=by rw [put_getD _ _ _ _ (by rw [g1.size]; exact (may hmay.2.1 hn hK).1),if_pos rfl]
    refine wpIn_seq (wpIn_cond_false hcv (wpIn_exit ?_))
    show (if out=out then Q .normal _ _ else _)
    rw [if_pos rfl]
    exact hQ hKst hres hext g4
  · -- an entry
    have hemem : e∈es.toList∧seen.contains e.born=false:=by
      unfold leftOf at he
      simp only [Array.toList_filter,List.mem_filter] at he
      exact ⟨he.1,by simpa using he.2⟩
    obtain ⟨i,hi⟩:=List.mem_iff_getElem?.1 hemem.1
    have hi' : es[i]?=some e:=by rw [← Array.getElem?_toList]; exact hi
    have hil : i∈left:=(hleft i).2 ⟨e,hi',hemem.2⟩
    cases k with
    | zero =>
      exfalso
      have:=hM.2.1
      rw [this] at hil; cases hil
    | succ k =>
      obtain ⟨_,hlen,hall⟩:=hM
      obtain ⟨x,st',hx,⟨l,hl,hE⟩,hM'⟩:=hall i hil
      have gw : Gam N' w0 ok0 st ok ρ a w1:=by rcases hw1 with rfl | rfl; exact g; exact g.drew
      have hpk:=ents_get hents i e hi
      obtain ⟨x',hx',hp1,hp2⟩:=hpk
      rw [hx] at hx'
      obtain rfl:=Option.some.inj hx'
      have hs : Same w w1 ok ok:=by
        rcases hw1 with rfl | rfl
        · exact Same.refl _ _
        · exact fun b hb => ⟨rfl,hb⟩
      have gr:=gw.reput hres (.mapIter (some b) clock (seen.push e.born) clock)
      obtain ⟨N2,hN2⟩ : ∃ N2,N2=N'.with r (.mapIter (some b) clock (seen.push e.born) clock):=⟨_,rfl⟩
      rw [← hN2] at gr
      have hn2 : N2.n=N.n:=by rw [hN2]; exact hn
      have hK2 : ∀ s,N2.K s=decide (s=it):=fun s => by rw [hN2]; exact hK s
      have hgh2 : ∀ k,N2.gh k=(.m idm,.map (some b)):=fun k => by rw [hN2]; exact hgh k
      have hx1 : (execOp a.eval o14a).run P w=.ok (.value (.tuple #[.bool true,e.key,e.val])) (w1.putObj r (.mapIter (some b) clock (seen.push e.born) clock)):=by
        have hev' : a.eval (.tmp it)=.pointer (some ⟨r,0,none⟩):=hev
        simp [execOp,r14a.1,hev',hrun]
        rfl
      obtain ⟨w2,hw2⟩ : ∃ w2,w2=w1.putObj r (.mapIter (some b) clock (seen.push e.born) clock):=⟨_,rfl⟩
      rw [← hw2] at gr hx1
      have hs2 : Same w w2 ok ok:=fun c hc => by
        refine ⟨?_,hc⟩
        have hcr : c≠r:=fun e' => by subst e'; exact (g.res c _ hres).2.2.1 rfl hc
        rw [hw2,World.putObj_heap_other hcr]
        exact (hs c hc).1
      refine wp_val hx1 ?_
      rw [r14a.2.1]
      have g1:=gr.put (may hmay.1 hn2 hK2) (l:=.u) (v:=.tuple #[.bool true,e.key,e.val]) (by simp only [LRep])
      show (if Region.wanted o14b _ then o14b.wpIn (FR none) 0 P (a.put (some nxs) (.tuple #[.bool true,e.key,e.val])) w2 (wpOpsIn (FR none) 0 P #[o14a,o14b] _ []) _ else _)
      rw [if_pos (by simp [Region.wanted,r14b.2.2])]
      have hev2 : (a.put (some nxs) (.tuple #[.bool true,e.key,e.val])).tmps.getD nxs undef=.tuple #[.bool true,e.key,e.val]:=by rw [put_getD _ _ _ _ (by rw [g.size]; exact (may hmay.1 hn hK).1),if_pos rfl]
      have hx2 : (execOp (a.put (some nxs) (.tuple #[.bool true,e.key,e.val])).eval o14b).run P w2=.ok (.value (.bool true)) w2:=by
        have hev2' : (a.put (some nxs) (.tuple #[.bool true,e.key,e.val])).eval (.tmp nxs)=.tuple #[.bool true,e.key,e.val]:=hev2
        simp [execOp,r14b.1,hev2',Instr.extract]
      refine wp_val hx2 ?_
      rw [r14b.2.1]
      have g2:=g1.put (may hmay.2.1 hn2 hK2) (l:=.v (.bool true)) (v:=.bool true) (by simp only [LRep,TRep])
      have g3:=g2.gc ok14 (stk hA hgh2 i14 ok14)
      have hcv : ((a.put (some nxs) (.tuple #[.bool true,e.key,e.val])).put (some mo) (.bool true)).tmps.getD mo undef=.bool true:=by rw [put_getD _ _ _ _ (by rw [g1.size]; exact (may hmay.2.1 hn2 hK2).1),if_pos rfl]
      refine wpIn_seq (wpIn_cond_true hcv (wpIn_skip ?_))
      refine wpIn_block (wpIn_seq (wpIn_region ?_))
      have hres2 : N2.res r=some (.mapIter (some b) clock (seen.push e.born) clock):=by rw [hN2,with_at]
      have hresb2 : N2.res b=some (.map es clock):=by rw [hN2,with_ne _ _ (fun e => hrb e.symm)]; exact hresb
      obtain ⟨a2,ha2⟩ : ∃ a2,a2=(a.put (some nxs) (.tuple #[.bool true,e.key,e.val])).put (some mo) (.bool true):=⟨_,rfl⟩
      rw [← ha2] at g3
      rw [← ha2]
      have hev3 : a2.tmps.getD it undef=.pointer (some ⟨r,0,none⟩):=by
        rw [g3.kept it (by rw [hK2]; simp),hN2]; exact hT it
      have hlen15 : ops15.size=os15.length+1:=by rw [← Array.length_toList,e15]; rfl
      rw [hlen15,List.range_succ_eq_map]
      have hop0 : ops15[0]?=some o15a:=by rw [← Array.getElem?_toList,e15]; rfl
      simp only [wpOpsIn,hop0]
      rw [if_pos (by simp [Region.wanted,r15.2.2])]
      have hent:=run_entry_at (P:=P) w2 r b clock seen es clock e (g3.res r _ hres2).2.1 (g3.res b _ hresb2).2.1 hemem.1 hbn
      have hx3 : (execOp a2.eval o15a).run P w2=.ok (.value (.tuple #[e.key,e.val])) w2:=by
        have hev3' : a2.eval (.tmp it)=.pointer (some ⟨r,0,none⟩):=hev3
        simp [execOp,r15.1,hev3',hent]
      refine wp_val hx3 ?_
      rw [r15.2.1]
      have g4:=g3.put (may hmay.2.2 hn2 hK2) (l:=l) (v:=.tuple #[e.key,e.val]) (ent_lrep (hp1.to hs2) (hp2.to hs2) hl)
      obtain ⟨m,hm⟩:=(E_some C 0).1 hE
      cases m with
      | zero => cases hm
      | succ m =>
        simp only [ev] at hm
        rcases seqK_some.1 hm with ⟨st4,hm1,hm2⟩ | ⟨_,hm2⟩
        · cases m with
          | zero => cases hm1
          | succ m =>
            simp only [ev] at hm1
            obtain ⟨st3,hm3,hst4⟩:=regK_some hm1
            have hst4 : st4=(look i15 A1).run 0 st3:=by simpa using hst4
            subst hst4
            have hidx : evIdx C 0 (cOpers P n1 ops15 ops15.toList) (List.map Nat.succ (List.range os15.length)) (((look i14 A1).run 0 ((st.set nxs .u).set mo (.v (.bool true)))).set pr l)=some st3:=by
              rw [evOps_idx (cOpers P n1 ops15 ops15.toList) (cOpers P n1 ops15 os15) 1 _ (fun j => by rw [e15,cOpers_get,cOpers_get,Nat.add_comm 1 j]; simp),cOpers_length] at hm3
              rw [range_shift]
              exact hm3
            have hgood : GoodAt P C N2 0:=⟨hC,fun f lo' hp args r hc k => by
              rw [hgh2]
              show maskC 1000000 [] (.m idm)=.m idm
              simp [maskC,lk,hidm,renM],fun R hR => by rw [hy] at hR; cases hR⟩
            have hstab : Stable N2 0 A1 B1:=⟨fun id k hok => stk hA hgh2 id hok k,fun id k hok => stk hB hgh2 id hok k⟩
            have hrg : ∀ M : Rm,RgOk n1 none M 0:=fun M h => by rw [hn1] at h; cases h
            refine wpOps_ok hgood (hle N2 hn2 hK2) g4 hidx fun ok5 ρ5 a5 w5 g5 => ?_
            have g6:=g5.gc ok15 (stk hA hgh2 i15 ok15)
            refine code_ok' hmix (m+1) hgood (hle N2 hn2 hK2) hstab (hrg N2) bd hm2 g6 fun N3 ok3 ρ3 a3 w3 e3 g7 => ?_
            refine ⟨k,Nat.lt_succ_self _,left.erase i,seen.push e.born,N3,st',ok3,ρ3,hM',e3.res _ _ hres2,?_,g7,fun j => ?_,hnd.erase i⟩
            · have h1 := Ext.with hres2 e3 (.mapIter (some b) clock #[] clock)
              have h2 : N2.with r (.mapIter (some b) clock #[] clock)=N'.with r (.mapIter (some b) clock #[] clock):=by rw [hN2,with_with]
              rw [h2] at h1
              exact hext.trans h1
            · rw [hnd.mem_erase_iff, hleft]
              constructor
              · rintro ⟨hji, e', h1, h2⟩
                refine ⟨e',h1,?_⟩
                simp only [Array.contains_push,Bool.or_eq_false_iff]
                refine ⟨h2,?_⟩
                simp only [beq_eq_false_iff_ne,ne_eq]
                intro hb'
                refine hji ?_
                have h1' : es.toList[j]?=some e':=by rw [Array.getElem?_toList]; exact h1
                have q1 : (es.toList.map (·.born))[j]?=some e'.born:=by rw [List.getElem?_map,h1']; rfl
                have q2 : (es.toList.map (·.born))[i]?=some e.born:=by rw [List.getElem?_map,hi]; rfl
                obtain ⟨q3,q4⟩:=List.getElem?_eq_some_iff.1 q1
                obtain ⟨q5,q6⟩:=List.getElem?_eq_some_iff.1 q2
                exact (List.getElem_inj hbn).1 (q4.trans (hb'.symm ▸ q6.symm))
              · rintro ⟨e', h1, h2⟩
                simp only [Array.contains_push,Bool.or_eq_false_iff] at h2
                refine ⟨fun hji => ?_,e',h1,h2.1⟩
                subst hji
                rw [h1] at hi'
                obtain rfl:=Option.some.inj hi'
                simp at h2
        · exact absurd rfl hm2

theorem Gam.watch {N : Rm} {w0 : World} {ok0 : Nat→Prop} {st : St} {ok : Nat→Prop} {ρ : Rho} {a : Act} {w : World} (g : Gam N w0 ok0 st ok ρ a w) {id b K : Nat} {o : Ob} (hid : st.hp id=some o) (hl : o.live=true) (hno : o.own=false) (hr : ρ id=some (b,K)) {m : Obj} (hm : w.heap[b]?=some m) (hw : watchO m=true) :
    Gam { N with res:=upd N.res b (some m) } w0 ok0 st ok ρ a w :=
  { below:=g.below,old:=g.old,size:=g.size,defers:=g.defers,free:=g.free,inj:=g.inj,fresh:=g.fresh,obj:=g.obj,env:=g.env,kept:=g.kept,gh:=g.gh,res:=fun c p h => by
      by_cases e : c=b
      · subst e
        have h : upd N.res c (some m) c=some p:=h
        rw [upd_same] at h
        obtain rfl:=Option.some.inj h
        refine ⟨(g.fresh id o c K hid hl hr).1,hm,fun h => (by rw [hw] at h; cases h),fun i q K' hi hb hri => ?_⟩
        have hql:=bars_live hb
        have:=g.inj i id q o c K' K hi hid hql hl hri hr
        subst this
        rw [hid] at hi
        obtain rfl:=Option.some.inj hi
        unfold barsO at hb
        rw [if_pos hw,hno] at hb
        cases hb
      · have h : upd N.res b (some m) c = some p := h
        rw [upd_ne _ _ e] at h
        exact g.res c p h }

theorem Ext.ranged {N N' : Rm} {it r idm b : Nat} {m i0 i1 : Obj} (hr : N.res r=none) (hb : N.res b=none) (hrb : r≠b) (h1 : N'.res r=some i1) (e : Ext (N.ranging it r idm b m i0) (N'.with r i0)) : Ext N { N' with K:=N.K,T:=N.T,gh:=N.gh }:=by
  have key : ∀ c o,N.res c=some o→c≠r∧c≠b:=fun c o hc => ⟨fun h => (by subst h; rw [hr] at hc; cases hc),fun h => (by subst h; rw [hb] at hc; cases hc)⟩
  have base : ∀ c,(N.ranging it r idm b m i0).res c=none→N.res c=none:=fun c hc => by
    cases hx : N.res c with
    | none => rfl
    | some o =>
      obtain ⟨k1,k2⟩:=key c o hx
      have : upd (upd N.res b (some m)) r (some i0) c=none:=hc
      rw [upd_ne _ _ k1,upd_ne _ _ k2,hx] at this
      cases this
  obtain ⟨ms,d1,d2⟩:=e.ds
  refine ⟨e.n,rfl,rfl,rfl,fun c o hc => ?_,ms,d1,?_⟩
  · obtain ⟨k1, k2⟩ := key c o hc
    have h2:=e.res c o (by show upd (upd N.res b (some m)) r (some i0) c=some o; rw [upd_ne _ _ k1,upd_ne _ _ k2]; exact hc)
    rwa [with_ne _ _ k1] at h2
  · have d3 := marks_down (N0 := N) base d2
    have d4 : marksOk N ((N'.with r i0).with r i1) ms:=marks_with d3 fun d hd e' => by
      subst e'
      have:=marks_none d2 hd
      have h4 : upd (upd N.res b (some m)) r (some i0) r=none:=this
      rw [upd_same] at h4
      cases h4
    rw [with_with,with_self h1] at d4
    refine marks_up (N:=N') (fun c o hc => ?_) d4
    exact hc

theorem mrng_ok (hmix : P.follows .mixedOrders=true) (hC : Good P C) (hy : C.y=none) {N : Rm} {w0 : World} {ok0 : Nat→Prop} {n n1 : Sl} {A0 A1 B1 : List (Nat × GC)} {idm it nxs mo pr out nx i13 i14 i15 x13 : Nat} {t kt et : TypeId}
    {kag vag : Bool} {ents : List (List TV × List TV)}
    (hn : n.le N) (hNK : ∀ s,N.K s=false) (hNg : ∀ k,N.gh k=(.u,undef)) (hit : N.may it)
    (hidm : idm < 1000000) (hn1 : n1.rg=false) (hle : ∀ N' : Rm,N'.n=N.n→(∀ s,N'.K s=decide (s=it))→n1.le N')
    (hmay : n1.may nxs=true∧n1.may mo=true∧n1.may pr=true)
    (hA : ∀ id,(look id A1).ok=true→maskL 0 (look id A1).ids (.m idm)=.m idm) (hB : ∀ id,(look id B1).ok=true→maskL 0 (look id B1).ids (.m idm)=.m idm)
    (ok13 : (look i13 A0).ok=true) (st13 : maskL 0 (look i13 A0).ids (.m idm)=.m idm) (ok14 : (look i14 A1).ok=true) (ok15 : (look i15 A1).ok=true) (okO : (look out B1).ok=true)
    (hut : P.underlying t=some (.map kt et))
    {ops15 : Array Oper} {o13a o13b o14a o14b o15a : Oper} {os15 : List Oper} {bd : Code}
    (r13 : o13b.op=.range t (.tmp x13)∧o13b.dst=some it∧o13b.guard=none)
    (r14a : o14a.op=.next (.tmp it) false∧o14a.dst=some nxs∧o14a.guard=none) (r14b : o14b.op=.extract (.tmp nxs) 0∧o14b.dst=some mo∧o14b.guard=none)
    (e15 : ops15.toList=o15a :: os15) (r15 : o15a.op=.entry (.tmp it)∧o15a.dst=some pr∧o15a.guard=none)
    {st st1 : St} (h13 : evOper C 0 st (cOper P n #[o13a,o13b] o13a)=some st1) (hx : st1.env x13=.m idm) (hm1 : st1.hp idm=some (.map false kag vag ents))
    (hm2 : ((look i13 A0).run 0 (st1.set it .u)).hp idm=some (.map false kag vag ents))
    {K : St→Prop} {Q : Exit→Act→World→Prop}
    (hM : MRP ents (fun x st st' => ∃ l,entL kag vag x=some l∧E C 0 (.seq (.region (cOpers P n1 ops15 os15) (look i15 A1)) (cCode P n1 A1 B1 bd)) (((look i14 A1).run 0 ((st.set nxs .u).set mo (.v (.bool true)))).set pr l)=some (.norm,st'))
      (fun st => st.hp idm=some (.map true kag vag ents)) K ents.length (List.range ents.length) ⟨((look i13 A0).run 0 (st1.set it .u)).env,upd ((look i13 A0).run 0 (st1.set it .u)).hp idm (some (.map true kag vag ents))⟩)
    (hQ : ∀ {N' : Rm} {st : St} {ok : Nat→Prop} {ρ : Rho} {a : Act} {w : World},K st→Ext N N'→Gam N' w0 ok0 ((look out B1).run 0 ((look i14 A1).run 0 ((st.set nxs .u).set mo (.v (.bool false))))) ok ρ a w→Q .normal a w)
    {ok : Nat→Prop} {ρ : Rho} {a : Act} {w : World} (g : Gam N w0 ok0 st ok ρ a w) :
    (Code.seq (.region i13 #[o13a,o13b] false) (.block out (.loop (.seq (.region i14 #[o14a,o14b] false) (.seq (.cond (.tmp mo) .skip (.exit out)) (.block nx (.seq (.region i15 ops15 false) bd))))))).wpIn (FR none) 0 P Q a w:=by
  have hgood : GoodAt P C N 0:=⟨hC,fun f lo' hp args r hc k => by rw [hNg]; rfl,fun R hR => by rw [hy] at hR; cases hR⟩
  refine wpIn_seq (wpIn_region ?_)
  show (if Region.wanted o13a _ then o13a.wpIn (FR none) 0 P a w (wpOpsIn (FR none) 0 P #[o13a,o13b] _ [1]) _ else _)
  refine oper_ok (next:=wpOpsIn (FR none) 0 P #[o13a,o13b] _ [1]) hgood g hn h13 fun ok1 ρ1 a1 w1 g1 => ?_
  show (if Region.wanted o13b _ then o13b.wpIn (FR none) 0 P a1 w1 (wpOpsIn (FR none) 0 P #[o13a,o13b] _ []) _ else _)
  rw [if_pos (by simp [Region.wanted,r13.2.2])]
  have hv:=g1.env x13
  rw [hx] at hv
  simp only [LRep,hm1,MRep] at hv
  obtain ⟨b,Kc,hρ,hval⟩:=hv
  obtain ⟨b',Kc',es,clock,q1,q2,q3,q4,q5⟩:=g1.obj idm _ hm1
  rw [hρ] at q1
  have hbb : b=b':=congrArg Prod.fst (Option.some.inj q1)
  subst hbb
  have hbl:=g1.fresh idm _ b Kc hm1 rfl hρ
  have hrun : (execOp a1.eval o13b).run P w1=.ok (.value (.pointer (some ⟨w1.heap.size,0,none⟩))) (w1.alloc (.mapIter (some b) clock #[] clock)):=by
    have hval' : a1.eval (.tmp x13)=.map (some b):=hval
    simp [execOp,r13.1,hval',run_range_map w1 t kt et b es clock hut q2]
  refine wp_val hrun ?_
  rw [r13.2.1]
  obtain ⟨r,hr⟩ : ∃ r,r=w1.heap.size:=⟨_,rfl⟩
  have hNr : N.res r=none:=by rw [hr]; exact g1.res_none
  have hrb : r≠b:=by omega
  have g2:=g1.reserve (.mapIter (some b) clock #[] clock)
  rw [← hr] at g2 ⊢
  have g3:=g2.put (d:=it) hit (l:=.u) (v:=.pointer (some ⟨r,0,none⟩)) (by simp only [LRep])
  have htv : (a1.put (some it) (.pointer (some ⟨r,0,none⟩))).tmps.getD it undef=.pointer (some ⟨r,0,none⟩):=by rw [put_getD _ _ _ _ (by rw [g1.size]; exact hit.1),if_pos rfl]
  obtain ⟨N1,hN1⟩ : ∃ N1 : Rm,N1={ N.with r (.mapIter (some b) clock #[] clock) with K:=fun s => decide (s=it),T:=fun _ => .pointer (some ⟨r,0,none⟩),gh:=fun _ => (.m idm,.map (some b)) }:=⟨_,rfl⟩
  have g4 : Gam N1 w0 ok0 (st1.set it .u) ok1 ρ1 (a1.put (some it) (.pointer (some ⟨r,0,none⟩))) (w1.alloc (.mapIter (some b) clock #[] clock)):=by
    subst hN1
    refine g3.less rfl rfl (fun s hs => ?_) (fun k => ?_) fun _ _ h => h
    · have : s = it := of_decide_eq_true hs
      subst this; exact htv
    · simp only [LRep]
      show MRep ρ1 idm _ (st1.hp idm)
      rw [hm1]
      exact ⟨b,Kc,hρ,rfl⟩
  have g5:=g4.gc ok13 (fun k => by subst hN1; exact st13)
  obtain ⟨s2,hs2⟩ : ∃ s2,s2=(look i13 A0).run 0 (st1.set it .u):=⟨_,rfl⟩
  rw [← hs2] at g5 hm2 hM
  have g6:=g5.freeze1 idm
  rw [hm2] at g6
  have g6 : Gam N1 w0 ok0 ⟨s2.env,upd s2.hp idm (some (.map true kag vag ents))⟩ ok1 _ (a1.put (some it) (.pointer (some ⟨r,0,none⟩))) (w1.alloc (.mapIter (some b) clock #[] clock)):=g6
  have hgh:=g6.gh 0
  have hgh0 : N1.gh 0=(.m idm,.map (some b)):=by rw [hN1]
  rw [hgh0] at hgh
  simp only [LRep,upd_same,MRep] at hgh
  obtain ⟨b2,K2,hρ2,hb2⟩:=hgh
  have hb2 : b=b2:=by simpa using hb2
  subst hb2
  have hheap : (w1.alloc (.mapIter (some b) clock #[] clock)).heap[b]?=some (.map es clock):=by first | (rw [heap_alloc_old _ _ hbl.2]; exact q2) | (rw [heap_alloc_old _ _ _ hbl.2]; exact q2)
  have g7:=g6.watch (upd_same _ _ _) rfl rfl hρ2 hheap rfl
  have hNb : N.res b=none:=by
    cases hx : N.res b with
    | none => rfl
    | some o =>
      exfalso
      obtain ⟨_,k2,k3,k4⟩:=g1.res b o hx
      exact k4 idm _ Kc hm1 (own_bars rfl) hρ
  subst hN1
  have g8:=g7.less (M:=N.ranging it r idm b (.map es clock) (.mapIter (some b) clock #[] clock)) rfl rfl g7.kept g7.gh fun c o hc => by
    have hc : upd (upd N.res b (some (.map es clock))) r (some (.mapIter (some b) clock #[] clock)) c=some o:=hc
    show upd (upd N.res r (some (.mapIter (some b) clock #[] clock))) b (some (.map es clock)) c=some o
    by_cases e1 : c=r
    · subst e1; rw [upd_same] at hc; rw [upd_ne _ _ hrb,upd_same]; exact hc
    · rw [upd_ne _ _ e1] at hc
      by_cases e2 : c=b
      · subst e2; rw [upd_same] at hc ⊢; exact hc
      · rw [upd_ne _ _ e2] at hc; rw [upd_ne _ _ e2,upd_ne _ _ e1]; exact hc
  have hlen:=q3.length
  show Exit.then _ _ .normal _ _
  refine mloop_ok hmix hC hy (N:=N) hidm hn1 hle hrb hmay hA hB ok14 ok15 okO r14a r14b e15 r15 q5 q4 (K:=K) (fun {N' st ok ρ a w seen} hK hres hext g' => ?_) (k:=ents.length) ⟨List.range ents.length,#[],N.ranging it r idm b (.map es clock) (.mapIter (some b) clock #[] clock),_,_,_,hM,?_,?_,g8,fun i => ?_,List.nodup_range⟩
  · refine hQ hK (Ext.ranged hNr hNb hrb hres hext) (g'.less rfl rfl (fun s hs => ?_) (fun k => ?_) fun _ _ h => h)
    · have : N.K s = true := hs
      rw [hNK] at this; cases this
    · have : (N.gh k) = (.u, undef) := hNg k
      show LRep _ _ _ _ (N.gh k).1 (N.gh k).2
      rw [this]
      simp only [LRep]
  · show upd (upd N.res b _) r _ r = _
    rw [upd_same]
  · rw [with_self (by show upd (upd N.res b _) r _ r = _; rw [upd_same])]
    exact Ext.refl _
  · rw [List.mem_range]
    constructor
    · intro hi
      have : i < es.size:=by rw [← Array.length_toList,hlen]; exact hi
      exact ⟨es[i],Array.getElem?_eq_getElem this,by simp⟩
    · rintro ⟨e, h1, _⟩
      have:=(Array.getElem?_eq_some_iff.1 h1).1
      rw [← Array.length_toList,hlen] at this
      exact this
end
end Go.Proofs.Ytcecojdeljbjoaa.Sx
