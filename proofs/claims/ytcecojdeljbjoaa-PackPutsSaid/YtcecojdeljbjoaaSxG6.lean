/- Names,darts,vertices,edges as this seat's proofs take them; their order. slices.Clone,at whatever element: from the kit's contract. MayLabel ranges over a string: its walk by the kit's laws. The pieces of comp.Labels,and the functions that it calls,as the evaluator takes them. What hangs together,in plain Lean: places joined by steps; the least place of each part; how many parts there are,and what a step more does to them. Vertices,edges,the other end of a dart: what is wanted ahead of the functions. Forests,in plain Lean: each place names one not above it; where that ends; halving paths and joining. comp.Labels: the forest's functions,in their caller's memory. comp.Labels: its loops,its rounds. comp.Labels: in whatever order the darts come,the least places of the parts. comp.Labels: the function,by hand: its range over the map by mrng_ok,all else by the evaluator. Slices of own slices,as the evaluator holds them far up: part k of length m goes by the name k * 1000000+m. comp.Parts as the evaluator takes it,and what it calls. comp.Parts: its rounds. Parts,in plain Lean: the roots below a place,and who belongs to each. comp.Parts: its loop,what it comes to. comp.Parts: the function: its code by the evaluator,far up; what it returns,by hand. Functions of the library that are known by a contract of the kit. -/
import Derived.Shelf.SlicesE.Clone
import Derived.Ground.SlgnProg
import Derived.Test.YtcecojdeljbjoaaChecked
import Derived.WalkKit
import Derived.LoopTactic
import Derived.Laws.RangeAny
import Derived.Laws.RangeString
import Derived.Laws.Strings
import Derived.Eval
import Derived.Test.YtcecojdeljbjoaaSxG4
import Derived.Test.YtcecojdeljbjoaaSxG5
set_option maxRecDepth 100000
set_option linter.unusedSimpArgs false
set_option linter.unusedVariables false
namespace Go.Proofs.Ytcecojdeljbjoaa.Sx
open Go
structure ID where
  s : Int
  n : Int
deriving DecidableEq
structure Dart where
  e : ID
  d : Int
deriving DecidableEq
def ID.c (x : ID) : List TV:=[.int .i64 x.s,.int .i64 x.n]
def Dart.c (x : Dart) : List TV:=[.int .i64 x.e.s,.int .i64 x.e.n,.int .i64 x.d]
def ID0 : ID:=⟨0,0⟩
def Dart0 : Dart:=⟨ID0,0⟩
@[go_sem] theorem ID.eta (x : ID) : (⟨x.s,x.n⟩ : ID)=x:=rfl
@[go_sem] theorem Dart.eta (x : Dart) : (⟨x.e,x.d⟩ : Dart)=x:=rfl
@[go_sem] theorem ID.mk_s (a b : Int) : (⟨a,b⟩ : ID).s=a:=rfl
@[go_sem] theorem ID.mk_n (a b : Int) : (⟨a,b⟩ : ID).n=b:=rfl
@[go_sem] theorem Dart.mk_e (a : ID) (b : Int) : (⟨a,b⟩ : Dart).e=a:=rfl
@[go_sem] theorem Dart.mk_d (a : ID) (b : Int) : (⟨a,b⟩ : Dart).d=b:=rfl
theorem ID.ext_iff' (x y : ID) : x=y↔x.s=y.s∧x.n=y.n:=by
  obtain ⟨a,b⟩:=x; obtain ⟨c,d⟩:=y; simp
theorem Dart.ext_iff' (x y : Dart) : x=y↔x.e.s=y.e.s∧x.e.n=y.e.n∧x.d=y.d:=by
  obtain ⟨⟨a,b⟩,e⟩:=x; obtain ⟨⟨c,d⟩,f⟩:=y; simp [and_assoc]
@[go_sem] theorem ID.dec (x y : ID) : (decide (x.s=y.s) && decide (x.n=y.n))=decide (x=y):=by
  rw [Bool.eq_iff_iff]; simp only [Bool.and_eq_true,decide_eq_true_eq,ID.ext_iff']
@[go_sem] theorem Dart.dec (x y : Dart) : (decide (x.e.s=y.e.s) && (decide (x.e.n=y.e.n) && decide (x.d=y.d)))=decide (x=y):=by
  rw [Bool.eq_iff_iff]; simp only [Bool.and_eq_true,decide_eq_true_eq,Dart.ext_iff']
@[go_sem] theorem ID.dec0 (x : ID) : (decide (x.s=0) && decide (x.n=0))=decide (x=ID0):=ID.dec x ID0
@[go_sem] theorem Dart.dec0 (x : Dart) : (decide (x.e.s=0) && (decide (x.e.n=0) && decide (x.d=0)))=decide (x=Dart0):=Dart.dec x Dart0
def mayI (x : ID) : Bool:=decide (1≤x.s∧x.s≤8∧1≤x.n∧x.n≤1048576)
def ordI (x y : ID) : Int:=if x=y then 0 else if x.s < y.s∨x.s=y.s∧x.n < y.n then -1 else 1
def ordD (x y : Dart) : Int:=if x=y then 0 else if x.e.s < y.e.s∨x.e.s=y.e.s∧(x.e.n < y.e.n∨x.e.n=y.e.n∧x.d < y.d) then -1 else 1
def cmpZ (a b : Int) : Int:=if a < b then -1 else if a > b then 1 else 0
def orZ (a b : Int) : Int:=if a=0 then b else a
theorem ordI_cases (x y : ID) : (ordI x y=0∧x=y)∨(ordI x y=-1∧(x.s < y.s∨x.s=y.s∧x.n < y.n))∨(ordI x y=1∧(y.s < x.s∨x.s=y.s∧y.n < x.n)):=by
  unfold ordI
  split
  · exact .inl ⟨rfl,by assumption⟩
  · rename_i hne
    rw [ID.ext_iff'] at hne
    split
    · exact .inr (.inl ⟨rfl,by assumption⟩)
    · exact .inr (.inr ⟨rfl,by omega⟩)
theorem ordD_cases (x y : Dart) : (ordD x y=0∧x=y)∨(ordD x y=-1∧(x.e.s < y.e.s∨x.e.s=y.e.s∧(x.e.n < y.e.n∨x.e.n=y.e.n∧x.d < y.d))) ∨
    (ordD x y=1∧(y.e.s < x.e.s∨x.e.s=y.e.s∧(y.e.n < x.e.n∨x.e.n=y.e.n∧y.d < x.d))):=by
  unfold ordD
  split
  · exact .inl ⟨rfl,by assumption⟩
  · rename_i hne
    rw [Dart.ext_iff'] at hne
    split
    · exact .inr (.inl ⟨rfl,by assumption⟩)
    · exact .inr (.inr ⟨rfl,by omega⟩)
theorem cmpZ_cases (a b : Int) : (cmpZ a b=0∧a=b)∨(cmpZ a b=-1∧a < b)∨(cmpZ a b=1∧b < a):=by
  unfold cmpZ
  split
  · omega
  · split<;>omega
theorem ordI_or (x y : ID) : (if x=y then 0 else orZ (cmpZ x.s y.s) (cmpZ x.n y.n))=ordI x y:=by
  have h0:=ordI_cases x y
  have h1:=cmpZ_cases x.s y.s
  have h2:=cmpZ_cases x.n y.n
  simp only [ID.ext_iff'] at h0 ⊢
  unfold orZ
  split
  · omega
  · split<;>omega
theorem ordD_or (x y : Dart) : orZ (ordI x.e y.e) (cmpZ x.d y.d)=ordD x y:=by
  have h0:=ordD_cases x y
  have h1:=ordI_cases x.e y.e
  have h2:=cmpZ_cases x.d y.d
  simp only [ID.ext_iff',Dart.ext_iff'] at h0 h1
  unfold orZ
  split<;>omega
def idx {α : Type} [DecidableEq α] (l : List α) (d : α) : Int:=if d∈l then (l.idxOf d : Int) else -1
theorem idx_neg {α : Type} [DecidableEq α] {l : List α} {d : α} (h : d∉l) : idx l d=-1:=by unfold idx; rw [if_neg h]
theorem idx_pos {α : Type} [DecidableEq α] {l : List α} {d : α} (h : d∈l) : idx l d=(l.idxOf d : Int):=by unfold idx; rw [if_pos h]
theorem idxOf_ne {α : Type} [DecidableEq α] {l : List α} {d : α} {i : Nat} (h : i < l.idxOf d) (hi : i < l.length) : l[i]≠d:=by
  have:=List.not_of_lt_findIdx (p:=(· == d)) (xs:=l) (i:=i) h
  simpa using this
theorem idxOf_le {α : Type} [DecidableEq α] (l : List α) (d : α) : l.idxOf d≤l.length:=List.findIdx_le_length
theorem idxOf_not {α : Type} [DecidableEq α] {l : List α} {d : α} (h : d∉l) : l.idxOf d=l.length:=by
  have:=idxOf_le l d
  rcases Nat.lt_or_ge (l.idxOf d) l.length with h1 | h1
  · exact absurd (List.idxOf_lt_length_iff.1 h1) h
  · omega
theorem idxOf_at {α : Type} [DecidableEq α] {l : List α} {d : α} (h : d∈l) : ∃ hlt : l.idxOf d < l.length,l[l.idxOf d]=d:=by
  have hlt:=List.idxOf_lt_length_iff.2 h
  exact ⟨hlt,List.getElem_idxOf hlt⟩
theorem idx_ge0 {α : Type} [DecidableEq α] (l : List α) (d : α) : decide (idx l d ≥ 0)=decide (d∈l):=by
  unfold idx; split<;>simp_all
end Go.Proofs.Ytcecojdeljbjoaa.Sx
namespace Go.Proofs.Ytcecojdeljbjoaa.Sx
open Go Go.Shelf Go.RowKit Go.Lib

def cloneG (e : TypeId) (sz bytes : Nat) : List TV→Option TV
  | [.sl _ sz' rows] => if sz'=sz∧rows.length * bytes≤140737488355328 then some (.sl (.own e) sz rows) else none
  | _ => none

section
variable {P : Program} {ρ : Go.Shelf.Ren}
set_option maxHeartbeats 2000000 in
set_option maxRecDepth 100000 in
theorem clone_zero (L : SlLaysE0.n41 P ρ) (i0 : TypeInfo) (z : Value) (size bytes : Nat) (hi : P.info? (ρ.t 23)=some i0) (hz0 : i0.zero=some z) (hz1 : i0.size=size) (hz2 : i0.bytes=bytes) (hzs : z.cells.size=size) (hsz : 0 < size)
    (z23 : ∀ w,(Go.sizeOf (ρ.t 23)).run P w=.ok size w) (ad : Addr) (c : Nat) (w : World) :
    Calls P (ρ.f 41) #[.slice (some ad) 0 c] w fun e w' => ∃ v',e=.returned v'∧w'.ownsRow w.heap.size (ρ.t 23) size v' 0 []∧Below w.heap.size w w':=by
  have mixed:=L.mixed; have t4:=L.t4; have a4:=L.a4; have z4:=L.z4; have v4:=L.v4; have t22:=L.t22; have a22:=L.a22; have z22:=L.z22; have v22:=L.v22
  have q22 : ∀ (w : World) (a : Option Addr) (n c n' c' : Nat),(binOp .eql (ρ.t 22) (.slice a n c) (.slice none n' c')).run P w=.ok (.bool a.isNone) w:=fun w a n c n' c' => Lib.run_eql_slice_nil w _ _ a n c n' c' L.t22
  have u22 : ∀ w,Sem.run P (underlying (ρ.t 22)) w=.ok (TypeDesc.slice (ρ.t 23)) w:=run_underlying t22
  obtain ⟨_,_,FG⟩:=L.f41
  go_enter FG,SlBodyN.n41_ntmps ρ
  go_wp2_with (at_builtin; refine wpList_append_own _ rfl _ _ (ρ.t 22) rfl w.heap.size (ρ.t 23) i0 z size bytes t22 hi hz0 hz1 hz2 hzs hsz _ _ _ rfl (World.ownsRow_made w #[] 0 (Nat.le_refl _) (Nat.zero_le _) (by simp)) ad 0 c [] rfl ?qc1 ?qc2 ?qc3 ?qc4 ?qc5 ?qc6 ?_)
  case qc1 => simp
  case qc2 => intro j u hj; simp at hj
  case qc3 => intro u hu; simp at hu
  case qc4 => exact Nat.zero_le _
  case qc5 => simp
  case qc6 => simp
  intro v' w1 hown hgrow hnil
  go_wp2
  go_ret
  refine ⟨v',rfl,by simpa using hown,?_⟩
  exact ((Below.refl _ w).alloc (Nat.le_refl _) _).grown hgrow (by simp) (by intro k hk; simp [Value.ownBlock] at hk; omega)

theorem below_same {n : Nat} {w w' : World} {ok : Nat→Prop} (h : Below n w w') (hok : ∀ b,ok b→b < n) : Same w w' ok ok:=fun b hb => ⟨h.block b (hok b hb),hb⟩

theorem own_res {w w' : World} {ok : Nat→Prop} (hok : ∀ b,ok b→b < w.heap.size) (hb : Below w.heap.size w w') {e : TypeId} {sz : Nat} {rows : List (List TV)} {news : List Value} {v : Value} (hr : RowsAre w ok sz rows news)
    (ho : w'.ownsRow w.heap.size e sz v rows.length news) : RRep w.heap.size w' ok (.sl (.own e) sz rows) v:=by
  obtain ⟨hl,⟨rfl,h0⟩ | ⟨g,cap,cur,rfl,hg,hh,h1,h2,h3,h4⟩⟩:=ho
  · refine ⟨ok, [none], fun b hb' => ⟨fun _ => hb', Nat.lt_of_lt_of_le (hok b hb') hb.size⟩, ⟨by simp, by simp⟩, ?_⟩
    have hn : rows=[]:=List.eq_nil_of_length_eq_zero h0
    subst hn
    exact ⟨none,none,0,rfl,rfl,Nat.zero_le _,.inl ⟨rfl,rfl,rfl⟩⟩
  · have hlt : g < w'.heap.size:=by
      rcases Nat.lt_or_ge g w'.heap.size with h | h
      · exact h
      · rw [Array.getElem?_eq_none h] at hh; cases hh
    refine ⟨ok,[some (g,cap)],fun b hb' => ⟨fun _ => hb',Nat.lt_of_lt_of_le (hok b hb') hb.size⟩,⟨fun b K hm => ?_,by simp⟩,?_⟩
    · simp at hm; obtain ⟨rfl, rfl⟩ := hm
      exact ⟨hg,hlt,fun hb' => absurd (hok _ hb') (by omega)⟩
    · refine ⟨some (g, cap), some ⟨g, 0, none⟩, cap, rfl, rfl, h2, .inr ⟨g, cur, rfl, rfl, hh, h3, h1, ?_⟩⟩
      refine (hr.to (below_same hb hok)).rep hh fun j u hj => ?_
      rw [← h4] at hj
      rw [List.getElem?_take] at hj
      split at hj
      · simpa using hj
      · cases hj

theorem clone_ok (L : SlLaysE0.n41 P ρ) (i0 : TypeInfo) (z : Value) (size bytes : Nat) (hi : P.info? (ρ.t 23)=some i0) (hz0 : i0.zero=some z) (hz1 : i0.size=size) (hz2 : i0.bytes=bytes) (hzs : z.cells.size=size) (hsz : 0 < size)
    (z23 : ∀ w,(Go.sizeOf (ρ.t 23)).run P w=.ok size w) (args : List TV) (r : TV) (h : cloneG (ρ.t 23) size bytes args=some r) : Sound P (ρ.f 41) args r:=by
  unfold cloneG at h
  split at h
  · split at h
    · rename_i fl sz' rows hc
      obtain ⟨rfl,hbytes⟩:=hc
      obtain rfl:=Option.some.inj h
      refine ⟨?_,fun w ok vs hok hv => ?_⟩
      · obtain ⟨nm, hn, hf⟩ := L.f41
        exact ⟨_,hf,hn,rfl⟩
      · obtain ⟨v, r, rfl, _, ht, rfl⟩ := hv
        obtain ⟨a,len,cap,rfl,rfl,hcap,hmax,_,hr⟩:=ht
        cases a with
        | none =>
          have hn : rows=[]:=by
            rcases hr with h | ⟨b,o,e,_⟩
            · exact h
            · cases e
          subst hn
          refine (AnyE.slices_Clone_nil L _ _ w).mono fun e w' ⟨he,hw⟩ => ?_
          subst hw
          exact ⟨_,he,Below.refl _ _,own_res hok (Below.refl _ _) RowsAre.nil ⟨by simp,.inl ⟨rfl,rfl⟩⟩⟩
        | some ad =>
          rcases hr with rfl | ⟨b,o,e,hb,hr⟩
          · refine (clone_zero L i0 z sz' bytes hi hz0 hz1 hz2 hzs hsz z23 ad cap w).mono fun e w' ⟨v', he, ho, hw⟩ => ?_
            exact ⟨v',he,hw,own_res hok hw RowsAre.nil ho⟩
          · obtain rfl := Option.some.inj e
            obtain ⟨news,hn,hcells⟩:=hr.are
            refine (AnyE.slices_Clone L i0 z sz' bytes hi hz0 hz1 hz2 hzs hsz z23 b o rows.length cap news w hn.1 (Nat.le_trans hcap hmax) hbytes hcells ?_).mono fun e w' ⟨v',he,ho,_,hw⟩ => ?_
            · exact hn.2.1
            · exact ⟨v',he,hw,own_res hok hw hn ho⟩
    · cases h
  · cases h
end
end Go.Proofs.Ytcecojdeljbjoaa.Sx
namespace Go.Proofs.Ytcecojdeljbjoaa
open Go Go.RowKit

def mayTo (s : ByteArray) (n : Nat) : Prop:=∀ i,(h : i < s.size)→i < n→32≤(s[i]'h).toNat∧(s[i]'h).toNat≤126
open Sx
theorem mayB_true {s : ByteArray} (h : mayTo s s.size) : mayB s=true:=by
  unfold mayB
  rw [List.all_eq_true]
  intro b hb
  obtain ⟨i,hi,rfl⟩:=List.mem_iff_getElem.1 hb
  have hi' : i < s.size:=by simpa using hi
  obtain ⟨h1,h2⟩:=h i hi' hi'
  have e : s[i]=s.data.toList[i]:=by simp; rfl
  rw [e] at h1 h2
  exact Bool.and_eq_true_iff.2 ⟨decide_eq_true h1,decide_eq_true h2⟩
theorem mayB_false {s : ByteArray} {i : Nat} (hi : i < s.size) (h : ¬ (32≤(s[i]'hi).toNat∧(s[i]'hi).toNat≤126)) : mayB s=false:=by
  unfold mayB
  rw [List.all_eq_false]
  have hi' : i < s.data.toList.length:=by simpa using hi
  refine ⟨s.data.toList[i],List.getElem_mem _,?_⟩
  have e : s[i]=s.data.toList[i]:=by simp; rfl
  rw [e] at h
  simpa using h

theorem bad_of {s : ByteArray} {pos : Nat} (hp : pos < s.size) (h : ((Utf8.decode s pos).1 : Int) < 32∨126 < ((Utf8.decode s pos).1 : Int)) : mayB s=false:=by
  refine mayB_false hp fun ⟨h1,h2⟩ => ?_
  have ha : (s[pos]'hp).toNat < 128:=by omega
  rw [decode_ascii s pos hp ha] at h
  simp only at h
  omega
theorem good_of {s : ByteArray} {pos : Nat} (hp : pos < s.size) (h : 32≤((Utf8.decode s pos).1 : Int)∧((Utf8.decode s pos).1 : Int)≤126) : (Utf8.decode s pos).2=1∧32≤(s[pos]'hp).toNat∧(s[pos]'hp).toNat≤126:=by
  by_cases ha : (s[pos]'hp).toNat < 128
  · rw [decode_ascii s pos hp ha] at h ⊢
    simp only at h
    exact ⟨rfl,by omega,by omega⟩
  · have := (decode_high s pos hp (by omega)).1
    omega
theorem mayTo_succ {s : ByteArray} {pos : Nat} (hp : pos < s.size) (hm : mayTo s pos) (h : 32≤(s[pos]'hp).toNat∧(s[pos]'hp).toNat≤126) : mayTo s (pos+1):=by
  intro i hi hlt
  by_cases e : i=pos
  · subst e; exact h
  · exact hm i hi (by omega)

set_option maxRecDepth 1000000 in
theorem mayLabel_walk (s : ByteArray) (w : World) :
    Calls Try.prog 49 #[.string s] w fun e w' => e=.returned (.bool (mayB s && decide ((s.size : Int)≤16)))∧∃ pos,w'=w.iter s pos:=by
  go_enter Try.func49,Try.ntmps49
  go_wp2
  go_loopw [] (fun w' => ∃ (pos : Nat),w'=w.iter s pos∧mayTo s pos) (fun w' => s.size - w'.iterPos w.heap.size)
  case atStart => exact ⟨0,rfl,fun i _ h => absurd h (Nat.not_lt_zero _)⟩
  case round =>
    obtain ⟨pos,rfl,hm⟩:=hrel
    by_cases hp : pos < s.size
    · have hnx : ∀ ty, (Instr.next (.pointer (some ⟨w.heap.size, 0, none⟩)) true ty).run Try.prog (w.iter s pos) = _ := fun ty => run_next_any w s pos ty hp
      go_wp2
      case roundEnd h1 h2 =>
        obtain ⟨g1,g2⟩:=good_of hp h2
        rw [g1]
        refine ⟨⟨pos+1,rfl,mayTo_succ hp hm g2⟩,?_⟩
        simp
        omega
      · rename_i h
        have hb:=bad_of hp h
        go_ret
        rw [hb]
        exact ⟨rfl,_,rfl⟩
      · rename_i h
        have hb:=bad_of hp (.inl h)
        go_ret
        rw [hb]
        exact ⟨rfl,_,rfl⟩
    · have hnx : ∀ ty, (Instr.next (.pointer (some ⟨w.heap.size, 0, none⟩)) true ty).run Try.prog (w.iter s pos) = _ := fun ty => run_next_end w s pos ty hp
      have hb : mayB s=true:=mayB_true fun i hi _ => hm i hi (by omega)
      go_wp2
      go_ret
      rw [hb]
      exact ⟨rfl,_,rfl⟩
namespace Sx
def mayG : List TV→Option TV
  | [.str s] => some (.bool (mayB s && decide ((s.size : Int)≤16)))
  | _ => none
theorem may_ok : EntOK Try.prog 49 (.ext mayG):=by
  intro args r h
  unfold mayG at h
  split at h
  · rename_i s
    obtain rfl:=Option.some.inj h
    refine ⟨⟨_,Try.func49,by decide,rfl⟩,fun w ok vs hok hv => ?_⟩
    obtain ⟨v,r,rfl,_,ht,rfl⟩:=hv
    obtain rfl:=ht
    refine (mayLabel_walk s w).mono fun e w' ⟨he,pos,hw⟩ => ?_
    subst hw
    have hb : Below w.heap.size w (w.iter s pos):=(Below.refl _ w).alloc (Nat.le_refl _) _
    refine ⟨_,he,hb,ok,[],fun b hb' => ⟨fun _ => hb',Nat.lt_of_lt_of_le (hok b hb') hb.size⟩,⟨by simp,by simp⟩,?_⟩
    exact ⟨rfl,rfl⟩
  · cases h
end Sx
end Go.Proofs.Ytcecojdeljbjoaa
namespace Go.Proofs.Ytcecojdeljbjoaa.Sx
open Go
def q100 : IFn:=⟨.seq (.region [⟨.box 1 (.t 0) 3,none⟩,⟨.alloc 2 [(.v (.int .i64 0)),(.v (.int .i64 0)),(.v (.int .i64 0))],none⟩] ⟨[1,2],[(1,1),(2,2)]⟩) (.seq (.region [⟨.faddr 3 (.t 1) 2,none⟩,⟨.load 4 (.t 3) 1 false,none⟩,⟨.bin 5 false .xor (.t 4) (.c (.v (.int .i64 1))),none⟩,⟨.faddr 6 (.t 1) 2,none⟩,⟨.store (.t 6) (.t 5) 1,none⟩] ⟨[1,2],[(1,1),(2,2)]⟩) (.seq (.region [⟨.load 7 (.t 1) 3 true,none⟩,⟨.store (.t 2) (.t 7) 3,none⟩] ⟨[2],[(2,2)]⟩) (.ret))),[.cell 2 3 true]⟩
theorem q100_chk : chk Try.prog 100 [(0,⟨[1,2],[(1,1),(2,2)]⟩),(1,⟨[1,2],[(1,1),(2,2)]⟩),(2,⟨[2],[(2,2)]⟩)] []=some q100:=by kernel_rfl
def q109_b1 : ICode:=.seq (.seq (.region [⟨.mv 5 (.t 0),none⟩,⟨.mv 6 (.t 1),none⟩,⟨.iaddr 7 (.t 5) (.t 6) 1,none⟩,⟨.load 8 (.t 7) 1 false,none⟩,⟨.mv 9 (.t 1),none⟩,⟨.bin 10 false .neq (.t 8) (.t 9),none⟩] ⟨[0,1,10],[]⟩) (.cond (.t 10) (.skip) (.seq (.gc ⟨[1],[]⟩) (.exit 0)))) (.block 1 (.seq (.region [⟨.mv 11 (.t 0),none⟩,⟨.mv 12 (.t 1),none⟩,⟨.mv 13 (.t 0),none⟩,⟨.mv 14 (.t 0),none⟩,⟨.mv 15 (.t 1),none⟩,⟨.iaddr 16 (.t 14) (.t 15) 1,none⟩,⟨.load 17 (.t 16) 1 false,none⟩,⟨.iaddr 18 (.t 13) (.t 17) 1,none⟩,⟨.load 19 (.t 18) 1 false,none⟩,⟨.iaddr 20 (.t 11) (.t 12) 1,none⟩,⟨.store (.t 20) (.t 19) 1,none⟩] ⟨[0,1],[]⟩) (.region [⟨.mv 21 (.t 0),none⟩,⟨.mv 22 (.t 1),none⟩,⟨.iaddr 23 (.t 21) (.t 22) 1,none⟩,⟨.load 24 (.t 23) 1 false,none⟩,⟨.mv 1 (.t 24),none⟩] ⟨[0,1],[]⟩)))
def q109_l1 : ICode:=.loop q109_b1
theorem q109_l1_eq (C : Cs) (lo : Nat) (st : St) : E C lo q109_l1 st=seqK (E C lo q109_l1) (E C lo q109_b1 st):=E_loop C lo q109_b1 st
def q109 : IFn:=⟨.seq (.region [⟨.mv 4 (.c (.v (.int .i64 0))),none⟩] ⟨[0,1],[]⟩) (.seq (.block 0 (q109_l1)) (.seq (.region [⟨.mv 25 (.t 1),none⟩,⟨.mv 4 (.t 25),none⟩] ⟨[4],[]⟩) (.ret))),[.tmp 4]⟩
theorem q109_chk : chk Try.prog 109 [(0,⟨[0,1],[]⟩),(1,⟨[0,1,10],[]⟩),(2,⟨[0,1],[]⟩),(3,⟨[0,1],[]⟩),(4,⟨[4],[]⟩)] [(0,⟨[1],[]⟩),(1,⟨[0,1],[]⟩)]=some q109:=by kernel_rfl
def q108 : IFn:=⟨.seq (.region [⟨.mv 8 (.t 0),none⟩,⟨.mv 9 (.t 1),none⟩,⟨.icall 10 1 (.fn 109) [(.t 8),(.t 9)],none⟩,⟨.mv 11 (.t 0),none⟩,⟨.mv 12 (.t 2),none⟩,⟨.icall 13 2 (.fn 109) [(.t 11),(.t 12)],none⟩,⟨.mv 6 (.t 10),none⟩,⟨.mv 7 (.t 13),none⟩] ⟨[0,6,7],[]⟩) (.region [⟨.mv 14 (.t 0),none⟩,⟨.mv 15 (.t 6),none⟩,⟨.mv 16 (.t 7),none⟩,⟨.mx 17 [(.t 15),(.t 16)],none⟩,⟨.mv 18 (.t 6),none⟩,⟨.mv 19 (.t 7),none⟩,⟨.mn 20 [(.t 18),(.t 19)],none⟩,⟨.iaddr 21 (.t 14) (.t 17) 1,none⟩,⟨.store (.t 21) (.t 20) 1,none⟩] ⟨[],[]⟩),[]⟩
theorem q108_chk : chk Try.prog 108 [(0,⟨[0,6,7],[]⟩),(1,⟨[],[]⟩),(1000000,⟨[1000010,2000013],[]⟩)] []=some q108:=by kernel_rfl
def lbA : List (Nat × GC):=[(0,⟨[1],[(1,1)]⟩),(1,⟨[1,3],[(1,1),(15,3)]⟩),(2,⟨[1,3,4],[(1,1),(3,3),(16,4)]⟩),(3,⟨[3,4,18,19,20],[(3,3),(4,4)]⟩),(4,⟨[3,4,18,19,20,21],[(3,3),(4,4)]⟩),(5,⟨[3,4,5,6,18,19,20],[(3,3),(4,4),(6,6)]⟩),(6,⟨[3,4,5,6,18,19,20],[(28,3),(4,4),(6,6)]⟩),(7,⟨[3,4,5,18,19,20,30,31,32],[(3,3),(4,4)]⟩),(8,⟨[3,4,5,18,19,20,30,31,32,33],[(3,3),(4,4)]⟩),(9,⟨[3,4,5,8,18,19,20,30,31,32],[(3,3),(4,4),(8,8)]⟩),(10,⟨[3,4,5,18,19,20,30,31,32],[(3,3),(4,4)]⟩),(11,⟨[3,4,5,18,19,20,30,31,32],[(3,3),(4,4)]⟩),(12,⟨[3,4,18,19,20],[(3,3),(4,4)]⟩),(13,⟨[3,4],[(3,3),(4,4)]⟩),(19,⟨[3,13],[(3,3)]⟩),(20,⟨[3,13,61,62],[(3,3)]⟩),(21,⟨[3,13,61,62,63],[(3,3),(13,13)]⟩),(22,⟨[3,13,14,61,62],[(3,3),(13,13)]⟩),(23,⟨[3,13,61,62],[(3,3),(70,13)]⟩),(24,⟨[3,13,61,62],[(3,3),(13,13)]⟩),(25,⟨[2],[(13,2)]⟩),(1000000,⟨[1000059,1000068],[]⟩)]
def lbB : List (Nat × GC):=[(0,⟨[3,4],[(3,3),(4,4)]⟩),(1,⟨[3,4,18,19,20],[]⟩),(2,⟨[3,4,18,19,20],[(3,3),(4,4)]⟩),(3,⟨[3,4,5,18,19,20,30,31,32],[]⟩),(5,⟨[3,4],[]⟩),(6,⟨[13],[(13,13)]⟩),(7,⟨[3,13,61,62],[]⟩)]
def lbA1 : List (Nat × GC):=[(14,⟨[3,4,44],[(3,3),(4,4)]⟩),(15,⟨[3,4,9,10],[(3,3),(4,4),(9,9)]⟩),(16,⟨[3,4,10,11,12],[(3,3),(4,4)]⟩),(17,⟨[3,4,10,11,55],[(3,3),(4,4)]⟩),(18,⟨[3,4],[(3,3),(4,4)]⟩)]
def lbB1 : List (Nat × GC):=[(4,⟨[3],[(3,3),(4,4)]⟩)]
def lb_x1 : ICode:=.region [⟨.box 1 (.t 0) 2,none⟩,⟨.mv 2 (.c (.v (.sl (.tight 3) 1 []))),none⟩] ⟨[1],[(1,1)]⟩
def lb_x2 : ICode:=.region [⟨.bslice 15 3 1 [],none⟩,⟨.mv 3 (.t 15),none⟩] ⟨[1,3],[(1,1),(15,3)]⟩
def lb_x3 : ICode:=.region [⟨.mkmap 16 true false,none⟩,⟨.mv 4 (.t 16),none⟩] ⟨[1,3,4],[(1,1),(3,3),(16,4)]⟩
def lb_b2 : ICode:=.seq (.region [⟨.bin 33 false .lss (.t 32) (.t 31),none⟩] ⟨[3,4,5,18,19,20,30,31,32,33],[(3,3),(4,4)]⟩) (.seq (.cond (.t 33) (.skip) (.seq (.gc ⟨[3,4,18,19,20],[(3,3),(4,4)]⟩) (.exit 2))) (.seq (.block 3 (.seq (.region [⟨.iaddr 34 (.t 30) (.t 32) 3,none⟩,⟨.load 35 (.t 34) 3 true,none⟩,⟨.alloc 8 [(.v (.int .i64 0)),(.v (.int .i64 0)),(.v (.int .i64 0))],none⟩,⟨.store (.t 8) (.t 35) 3,none⟩] ⟨[3,4,5,8,18,19,20,30,31,32],[(3,3),(4,4),(8,8)]⟩) (.region [⟨.mv 36 (.t 4),none⟩,⟨.load 37 (.t 8) 3 true,none⟩,⟨.mv 38 (.t 5),none⟩,⟨.mupd [.i,.i,.i] true false 1 (.t 36) (.t 37) (.t 38),none⟩] ⟨[3,4,5,18,19,20,30,31,32],[(3,3),(4,4)]⟩))) (.region [⟨.bin 39 false .add (.t 32) (.c (.v (.int .i64 1))),none⟩,⟨.mv 32 (.t 39),none⟩] ⟨[3,4,5,18,19,20,30,31,32],[(3,3),(4,4)]⟩)))
def lb_l2 : ICode:=.loop lb_b2
def lb_b1 : ICode:=.seq (.region [⟨.bin 21 false .lss (.t 20) (.t 19),none⟩] ⟨[3,4,18,19,20,21],[(3,3),(4,4)]⟩) (.seq (.cond (.t 21) (.skip) (.seq (.gc ⟨[3,4],[(3,3),(4,4)]⟩) (.exit 0))) (.seq (.block 1 (.seq (.region [⟨.mv 22 (.t 20),none⟩,⟨.iaddr 23 (.t 18) (.t 20) 5,none⟩,⟨.load 24 (.t 23) 5 true,none⟩,⟨.alloc 6 [(.v (.int .i64 0)),(.v (.int .i64 0)),(.v (.sl (.tight 56) 3 [])),(.v (.str ⟨#[]⟩)),(.v (.int .i64 0))],none⟩,⟨.mv 5 (.t 22),none⟩,⟨.store (.t 6) (.t 24) 5,none⟩] ⟨[3,4,5,6,18,19,20],[(3,3),(4,4),(6,6)]⟩) (.seq (.region [⟨.mv 25 (.t 3),none⟩,⟨.mv 26 (.t 5),none⟩,⟨.bslice 27 3 1 [(.t 26)],none⟩,⟨.append 28 (.t 25) (.t 27) 3 1 8,none⟩,⟨.mv 3 (.t 28),none⟩] ⟨[3,4,5,6,18,19,20],[(28,3),(4,4),(6,6)]⟩) (.seq (.region [⟨.faddr 29 (.t 6) 2,none⟩,⟨.load 30 (.t 29) 1 false,none⟩,⟨.len 31 false (.t 30),none⟩,⟨.mv 32 (.c (.v (.int .i64 0))),none⟩] ⟨[3,4,5,18,19,20,30,31,32],[(3,3),(4,4)]⟩) (.block 2 (lb_l2)))))) (.region [⟨.bin 40 false .add (.t 20) (.c (.v (.int .i64 1))),none⟩,⟨.mv 20 (.t 40),none⟩] ⟨[3,4,18,19,20],[(3,3),(4,4)]⟩)))
def lb_l1 : ICode:=.loop lb_b1
def lb_x4 : ICode:=.seq (.region [⟨.faddr 17 (.t 1) 0,none⟩,⟨.load 18 (.t 17) 1 false,none⟩,⟨.len 19 false (.t 18),none⟩,⟨.mv 20 (.c (.v (.int .i64 0))),none⟩] ⟨[3,4,18,19,20],[(3,3),(4,4)]⟩) (.block 0 (lb_l1))
def lb_b3 : ICode:=.seq (.region [⟨.bin 63 false .lss (.t 62) (.t 61),none⟩] ⟨[3,13,61,62,63],[(3,3),(13,13)]⟩) (.seq (.cond (.t 63) (.skip) (.seq (.gc ⟨[13],[(13,13)]⟩) (.exit 6))) (.seq (.block 7 (.seq (.region [⟨.mv 64 (.t 62),none⟩,⟨.mv 14 (.t 64),none⟩] ⟨[3,13,14,61,62],[(3,3),(13,13)]⟩) (.region [⟨.mv 65 (.t 13),none⟩,⟨.mv 66 (.t 3),none⟩,⟨.mv 67 (.t 14),none⟩,⟨.icall 68 1 (.fn 109) [(.t 66),(.t 67)],none⟩,⟨.bslice 69 3 1 [(.t 68)],none⟩,⟨.append 70 (.t 65) (.t 69) 3 1 8,none⟩,⟨.mv 13 (.t 70),none⟩] ⟨[3,13,61,62],[(3,3),(70,13)]⟩))) (.region [⟨.bin 71 false .add (.t 62) (.c (.v (.int .i64 1))),none⟩,⟨.mv 62 (.t 71),none⟩] ⟨[3,13,61,62],[(3,3),(13,13)]⟩)))
def lb_l3 : ICode:=.loop lb_b3
def lb_R : ICode:=.seq (.region [⟨.mv 13 (.c (.v (.sl (.tight 3) 1 []))),none⟩] ⟨[3,13],[(3,3)]⟩) (.seq (.seq (.region [⟨.mv 60 (.t 3),none⟩,⟨.len 61 false (.t 60),none⟩,⟨.mv 62 (.c (.v (.int .i64 0))),none⟩] ⟨[3,13,61,62],[(3,3)]⟩) (.block 6 (lb_l3))) (.seq (.region [⟨.mv 72 (.t 13),none⟩,⟨.mv 2 (.t 72),none⟩] ⟨[2],[(13,2)]⟩) (.ret)))
def lb_bd : ICode:=.seq (.region [⟨.mv 49 (.t 4),none⟩,⟨.load 50 (.t 9) 3 true,none⟩,⟨.call 51 (.fn 100) [(.t 50)],none⟩,⟨.mget 52 [.i,.i,.i] true false [(.int .i64 0)] true (.t 49) (.t 51),none⟩,⟨.mv 48 (.t 52),none⟩,⟨.ext 53 (.t 48) 0,none⟩,⟨.ext 54 (.t 48) 1,none⟩,⟨.mv 11 (.t 53),none⟩,⟨.mv 12 (.t 54),none⟩] ⟨[3,4,10,11,12],[(3,3),(4,4)]⟩) (.seq (.region [⟨.mv 55 (.t 12),none⟩] ⟨[3,4,10,11,55],[(3,3),(4,4)]⟩) (.cond (.t 55) (.region [⟨.mv 56 (.t 3),none⟩,⟨.mv 57 (.t 10),none⟩,⟨.mv 58 (.t 11),none⟩,⟨.icall 59 1 (.fn 108) [(.t 56),(.t 57),(.t 58)],none⟩] ⟨[3,4],[(3,3),(4,4)]⟩) (.skip)))
def lb_os : List IOper:=[⟨.ext 46 (.t 45) 0,none⟩,⟨.ext 47 (.t 45) 1,none⟩,⟨.alloc 9 [(.v (.int .i64 0)),(.v (.int .i64 0)),(.v (.int .i64 0))],none⟩,⟨.store (.t 9) (.t 46) 3,none⟩,⟨.mv 10 (.t 47),none⟩]
def lb_g13 : GC:=⟨[3,4],[(3,3),(4,4)]⟩
def lb_g14 : GC:=⟨[3,4,44],[(3,3),(4,4)]⟩
def lb_g15 : GC:=⟨[3,4,9,10],[(3,3),(4,4),(9,9)]⟩
def lb_gO : GC:=⟨[3],[(3,3),(4,4)]⟩
def c1 : Code→Code | .seq a _ => a | .block _ a => a | .loop a => a | c => c
def c2 : Code→Code | .seq _ b => b | c => c
def cops : Code→Array Oper | .region _ ops _ => ops | _ => #[]
noncomputable def lbC : Code:=Try.f103.body.getD .skip
noncomputable def lbX1 : Code:=c1 lbC
noncomputable def lbX2 : Code:=c1 (c2 lbC)
noncomputable def lbX3 : Code:=c1 (c2 (c2 lbC))
noncomputable def lbX4 : Code:=c1 (c2 (c2 (c2 lbC)))
noncomputable def lbM : Code:=c1 (c2 (c2 (c2 (c2 lbC))))
noncomputable def lbR : Code:=c2 (c2 (c2 (c2 (c2 lbC))))
noncomputable def lbO13 : Array Oper:=cops (c1 lbM)
noncomputable def lbIn : Code:=c1 (c1 (c2 lbM))
noncomputable def lbO14 : Array Oper:=cops (c1 lbIn)
noncomputable def lbIn2 : Code:=c1 (c2 (c2 lbIn))
noncomputable def lbO15 : Array Oper:=cops (c1 lbIn2)
noncomputable def lbBd : Code:=c2 lbIn2
noncomputable def lbO (o : Array Oper) (i : Nat) : Oper:=o.getD i ⟨none,.move (.tmp 0),0,"",#[],none⟩
noncomputable def lbN : Sl:=⟨Try.f103.ntmps,[],[1000059,1000068],true⟩
noncomputable def lbN1 : Sl:=⟨Try.f103.ntmps,[42],[1000059,1000068],false⟩
theorem lb_body : Try.f103.body=some (.seq lbX1 (.seq lbX2 (.seq lbX3 (.seq lbX4 (.seq lbM lbR))))):=by kernel_rfl
theorem lb_M : lbM=.seq (.region 13 #[lbO lbO13 0,lbO lbO13 1] false) (.block 4 (.loop (.seq (.region 14 #[lbO lbO14 0,lbO lbO14 1] false) (.seq (.cond (.tmp 44) .skip (.exit 4)) (.block 5 (.seq (.region 15 lbO15 false) lbBd)))))):=by kernel_rfl
theorem lb_o13 : cOper Try.prog lbN #[lbO lbO13 0,lbO lbO13 1] (lbO lbO13 0)=⟨.mv 41 (.t 4),none⟩:=by kernel_rfl
theorem lb_r13 : (lbO lbO13 1).op=.range (match (lbO lbO13 1).op with | .range t _ => t | _ => 0) (.tmp 41)∧(lbO lbO13 1).dst=some 42∧(lbO lbO13 1).guard=none:=⟨by kernel_rfl,by kernel_rfl,by kernel_rfl⟩
theorem lb_r14a : (lbO lbO14 0).op=.next (.tmp 42) false∧(lbO lbO14 0).dst=some 43∧(lbO lbO14 0).guard=none:=⟨by kernel_rfl,by kernel_rfl,by kernel_rfl⟩
theorem lb_r14b : (lbO lbO14 1).op=.extract (.tmp 43) 0∧(lbO lbO14 1).dst=some 44∧(lbO lbO14 1).guard=none:=⟨by kernel_rfl,by kernel_rfl,by kernel_rfl⟩
theorem lb_e15 : lbO15.toList=lbO lbO15 0 :: lbO15.toList.tail:=by kernel_rfl
theorem lb_r15 : (lbO lbO15 0).op=.entry (.tmp 42)∧(lbO lbO15 0).dst=some 45∧(lbO lbO15 0).guard=none:=⟨by kernel_rfl,by kernel_rfl,by kernel_rfl⟩
theorem lb_c1 : cCode Try.prog lbN lbA lbB lbX1=lb_x1:=by kernel_rfl
theorem lb_c2 : cCode Try.prog lbN lbA lbB lbX2=lb_x2:=by kernel_rfl
theorem lb_c3 : cCode Try.prog lbN lbA lbB lbX3=lb_x3:=by kernel_rfl
theorem lb_c4 : cCode Try.prog lbN lbA lbB lbX4=lb_x4:=by kernel_rfl
theorem lb_cR : cCode Try.prog lbN lbA lbB lbR=lb_R:=by kernel_rfl
theorem lb_cbd : cCode Try.prog lbN1 lbA1 lbB1 lbBd=lb_bd:=by kernel_rfl
theorem lb_cos : cOpers Try.prog lbN1 lbO15 lbO15.toList.tail=lb_os:=by kernel_rfl
theorem lb_look : look 13 lbA=lb_g13∧look 14 lbA1=lb_g14∧look 15 lbA1=lb_g15∧look 4 lbB1=lb_gO:=⟨rfl,rfl,rfl,rfl⟩
theorem lb_may : lbN1.may 43=true∧lbN1.may 44=true∧lbN1.may 45=true:=⟨by kernel_rfl,by kernel_rfl,by kernel_rfl⟩
theorem lb_resok : Try.f103.results.toList.all (resOk Try.prog)=true:=by kernel_rfl
theorem lb_res : Try.f103.results.toList.map (cRes Try.prog)=[.tmp 2]:=by kernel_rfl
theorem lb_mayit : lbN.may 42=true:=by kernel_rfl
def lbF : FuncId→Option FEnt:=fun f => if f=100 then some (.code q100) else if f=108 then some (.code q108) else if f=109 then some (.code q109) else none
theorem lb_good : Good Try.prog (cs lbF):=call_good lbF (Checked.mixed Try.checked) fun f e h => by
  unfold lbF at h
  split at h
  · rename_i hf; subst hf; obtain rfl:=Option.some.inj h; exact ⟨_,_,q100_chk⟩
  · split at h
    · rename_i hf; subst hf; obtain rfl:=Option.some.inj h; exact ⟨_,_,q108_chk⟩
    · split at h
      · rename_i hf; subst hf; obtain rfl:=Option.some.inj h; exact ⟨_,_,q109_chk⟩
      · cases h
end Go.Proofs.Ytcecojdeljbjoaa.Sx
namespace Go.Proofs.Ytcecojdeljbjoaa.Sx
inductive Con (R : Nat→Nat→Prop) : Nat→Nat→Prop
  | refl (u : Nat) : Con R u u
  | step {u v w : Nat} : R u v→Con R v w→Con R u w
section
variable {R S : Nat→Nat→Prop}
theorem Con.trans {u v w : Nat} (h : Con R u v) (k : Con R v w) : Con R u w:=by
  induction h with
  | refl => exact k
  | step a _ ih => exact .step a (ih k)
theorem Con.one {u v : Nat} (h : R u v) : Con R u v:=.step h (.refl v)
theorem Con.symm (hs : ∀ u v,R u v→R v u) {u v : Nat} (h : Con R u v) : Con R v u:=by
  induction h with
  | refl => exact .refl _
  | step a _ ih => exact ih.trans (.one (hs _ _ a))
theorem Con.mono (hs : ∀ u v,R u v→Con S u v) {u v : Nat} (h : Con R u v) : Con S u v:=by
  induction h with
  | refl => exact .refl _
  | step a _ ih => exact (hs _ _ a).trans ih
theorem Con.iff (hs : ∀ u v,R u v↔S u v) (u v : Nat) : Con R u v↔Con S u v :=
  ⟨Con.mono fun u v h => .one ((hs u v).1 h),Con.mono fun u v h => .one ((hs u v).2 h)⟩
theorem Con.inv {P : Nat→Prop} (hs : ∀ u v,R u v→P u→P v) {u v : Nat} (h : Con R u v) (hu : P u) : P v:=by
  induction h with
  | refl => exact hu
  | step a _ ih => exact ih (hs _ _ a hu)
def withE (R : Nat→Nat→Prop) (p q : Nat) (u v : Nat) : Prop:=R u v∨(u=p∧v=q)∨(u=q∧v=p)
theorem Con.withE (hs : ∀ u v,R u v→R v u) {p q u v : Nat} : Con (Sx.withE R p q) u v↔Con R u v∨(Con R u p∧Con R q v)∨(Con R u q∧Con R p v):=by
  constructor
  · intro h
    induction h with
    | refl u => exact .inl (.refl u)
    | step a _ ih =>
      rcases a with a | ⟨rfl,rfl⟩ | ⟨rfl,rfl⟩
      · rcases ih with h | ⟨h, k⟩ | ⟨h, k⟩
        · exact .inl (.step a h)
        · exact .inr (.inl ⟨.step a h,k⟩)
        · exact .inr (.inr ⟨.step a h,k⟩)
      · rcases ih with h | ⟨h, k⟩ | ⟨h, k⟩
        · exact .inr (.inl ⟨.refl _,h⟩)
        · exact .inr (.inl ⟨.refl _,k⟩)
        · exact .inl k
      · rcases ih with h | ⟨h, k⟩ | ⟨h, k⟩
        · exact .inr (.inr ⟨.refl _,h⟩)
        · exact .inl k
        · exact .inr (.inr ⟨.refl _,k⟩)
  · have m : ∀ {u v : Nat}, Con R u v → Con (Sx.withE R p q) u v := fun h => h.mono fun u v h => .one (.inl h)
    rintro (h | ⟨h,k⟩ | ⟨h,k⟩)
    · exact m h
    · exact (m h).trans (.step (.inr (.inl ⟨rfl,rfl⟩)) (m k))
    · exact (m h).trans (.step (.inr (.inr ⟨rfl,rfl⟩)) (m k))
structure Lab (R : Nat→Nat→Prop) (n : Nat) (lab : Nat→Nat) : Prop where
  con : ∀ u,u < n→Con R u (lab u)
  le : ∀ u,u < n→∀ v,Con R u v→lab u≤v
theorem Lab.self {n : Nat} {lab : Nat→Nat} (h : Lab R n lab) {u : Nat} (hu : u < n) : lab u≤u:=h.le u hu u (.refl u)
theorem Lab.eq (hs : ∀ u v,R u v→R v u) {n : Nat} {lab : Nat→Nat} (h : Lab R n lab) {u v : Nat} (hu : u < n) (hv : v < n) : Con R u v↔lab u=lab v:=by
  constructor
  · intro k
    exact Nat.le_antisymm (h.le u hu _ (k.trans (h.con v hv))) (h.le v hv _ ((k.symm hs).trans (h.con u hu)))
  · intro e
    have:=h.con u hu
    rw [e] at this
    exact this.trans ((h.con v hv).symm hs)
theorem Lab.uniq {n : Nat} {lab lab' : Nat→Nat} (h : Lab R n lab) (h' : Lab R n lab') {u : Nat} (hu : u < n) : lab u=lab' u :=
  Nat.le_antisymm (h.le u hu _ (h'.con u hu)) (h'.le u hu _ (h.con u hu))
theorem Lab.iff {n : Nat} {lab : Nat→Nat} (h : Lab R n lab) (hs : ∀ u v,R u v↔S u v) : Lab S n lab :=
  ⟨fun u hu => (Con.iff hs _ _).1 (h.con u hu),fun u hu v hv => h.le u hu v ((Con.iff hs _ _).2 hv)⟩
theorem Lab.idem (hs : ∀ u v,R u v→R v u) {n : Nat} {lab : Nat→Nat} (h : Lab R n lab) {u : Nat} (hu : u < n) : lab (lab u)=lab u:=by
  have h1 : lab u < n:=Nat.lt_of_le_of_lt (h.self hu) hu
  exact (((h.eq hs hu h1).1 (h.con u hu))).symm
open Classical in
theorem lab_ex (R : Nat→Nat→Prop) (n : Nat) : ∃ lab,Lab R n lab:=by
  have key : ∀ k u,u≤k→∃ m,Con R u m∧∀ v,Con R u v→m≤v:=by
    intro k u hk
    by_cases h : ∃ m,Con R u m∧∀ v,Con R u v→m≤v
    · exact h
    · exfalso
      have : ∀ j v,v≤j→Con R u v→False:=by
        intro j
        induction j with
        | zero =>
          intro v hv hc
          exact h ⟨v,hc,fun w _ => by omega⟩
        | succ j ih =>
          intro v hv hc
          by_cases hw : ∃ w,Con R u w∧w < v
          · obtain ⟨w, h1, h2⟩ := hw
            exact ih w (by omega) h1
          · exact h ⟨v,hc,fun w hw' => by
              rcases Nat.lt_or_ge w v with h | h
              · exact absurd ⟨w,hw',h⟩ hw
              · exact h⟩
      exact this u u (Nat.le_refl _) (.refl u)
  refine ⟨fun u => (key u u (Nat.le_refl _)).choose,fun u _ => (key u u (Nat.le_refl _)).choose_spec.1,fun u _ => (key u u (Nat.le_refl _)).choose_spec.2⟩
def partsN (lab : Nat→Nat) (n : Nat) : Nat:=(List.range n).countP fun u => decide (lab u=u)
theorem partsN_congr {lab lab' : Nat→Nat} {n : Nat} (h : ∀ u,u < n→lab u=lab' u) : partsN lab n=partsN lab' n:=by
  unfold partsN
  refine List.countP_congr fun u hu => ?_
  rw [h u (List.mem_range.1 hu)]
theorem partsN_le (lab : Nat→Nat) (n : Nat) : partsN lab n≤n:=by
  have:=List.countP_le_length (p:=fun u => decide (lab u=u)) (l:=List.range n)
  rw [List.length_range] at this; exact this
theorem countP_one {l : List Nat} {p q : Nat→Bool} {a : Nat} (hn : l.Nodup) (ha : a∈l) (hp : p a=true) (hq : q a=false) (h : ∀ u∈l,u≠a→p u=q u) : l.countP p=l.countP q+1:=by
  obtain ⟨s,t,rfl⟩:=List.append_of_mem ha
  rw [List.nodup_append] at hn
  have hn2:=hn.2.1
  rw [List.nodup_cons] at hn2
  have e1 : s.countP p=s.countP q:=List.countP_congr fun u hu => by
    rw [h u (by simp [hu]) (fun e => hn.2.2 u hu a (by simp) e)]
  have e2 : t.countP p=t.countP q:=List.countP_congr fun u hu => by
    rw [h u (by simp [hu]) (fun e => hn2.1 (e ▸ hu))]
  rw [List.countP_append,List.countP_append,List.countP_cons,List.countP_cons,e1,e2,hp,hq]
  simp; omega
theorem Lab.more (hs : ∀ u v,R u v→R v u) {n p q : Nat} (hp : p < n) (hq : q < n) {lab : Nat→Nat} (h : Lab R n lab) :
    Lab (withE R p q) n (fun u => if lab u=lab p∨lab u=lab q then min (lab p) (lab q) else lab u):=by
  have up : ∀ {u v},Con R u v→Con (withE R p q) u v:=fun h => h.mono fun u v h => .one (.inl h)
  have cpq : Con (withE R p q) p q:=.one (.inr (.inl ⟨rfl,rfl⟩))
  have cqp : Con (withE R p q) q p:=.one (.inr (.inr ⟨rfl,rfl⟩))
  refine ⟨fun u hu => ?_,fun u hu v hv => ?_⟩
  · show Con (withE R p q) u (if lab u = lab p ∨ lab u = lab q then min (lab p) (lab q) else lab u)
    split
    · rename_i he
      rcases he with he | he
      · have c1 := up ((h.eq hs hu hp).2 he)
        rcases Nat.le_total (lab p) (lab q) with hle | hle
        · rw [Nat.min_eq_left hle]; exact c1.trans (up (h.con p hp))
        · rw [Nat.min_eq_right hle]; exact c1.trans (cpq.trans (up (h.con q hq)))
      · have c1 := up ((h.eq hs hu hq).2 he)
        rcases Nat.le_total (lab p) (lab q) with hle | hle
        · rw [Nat.min_eq_left hle]; exact c1.trans (cqp.trans (up (h.con p hp)))
        · rw [Nat.min_eq_right hle]; exact c1.trans (up (h.con q hq))
    · exact up (h.con u hu)
  · show (if lab u = lab p ∨ lab u = lab q then min (lab p) (lab q) else lab u) ≤ v
    rcases (Con.withE hs).1 hv with k | ⟨k1,k2⟩ | ⟨k1,k2⟩
    · have e := h.le u hu v k
      split<;>omega
    · have e1 := (h.eq hs hu hp).1 k1
      rw [if_pos (.inl e1)]
      have:=h.le q hq v k2
      omega
    · have e1 := (h.eq hs hu hq).1 k1
      rw [if_pos (.inr e1)]
      have:=h.le p hp v k2
      omega
open Classical in
theorem parts_with (hs : ∀ u v,R u v→R v u) {n p q : Nat} (hp : p < n) (hq : q < n) {lab lab' : Nat→Nat} (h : Lab R n lab) (h' : Lab (withE R p q) n lab') :
    partsN lab n=partsN lab' n+if Con R p q then 0 else 1:=by
  by_cases hc : Con R p q
  · rw [if_pos hc]
    refine partsN_congr fun u hu => ?_
    have : Lab (withE R p q) n lab:=by
      have k : ∀ {u v},Con (withE R p q) u v→Con R u v:=fun h => h.mono fun u v h => by
        rcases h with h | ⟨rfl,rfl⟩ | ⟨rfl,rfl⟩
        · exact .one h
        · exact hc
        · exact hc.symm hs
      exact ⟨fun u hu => (h.con u hu).mono fun u v h => .one (.inl h),fun u hu v hv => h.le u hu v (k hv)⟩
    exact this.uniq h' hu
  · rw [if_neg hc]
    -- the lesser one of the two parts' least places stays
    have hpl:=h.self hp
    have hql:=h.self hq
    have hne : lab p≠lab q:=fun e => hc ((h.eq hs hp hq).2 e)
    -- what lab' is
    have hl : ∀ u,u < n→lab' u=if lab u=lab p∨lab u=lab q then min (lab p) (lab q) else lab u:=fun u hu => by
      have:=h.more hs hp hq
      exact h'.uniq this hu
    -- count
    have hmx : max (lab p) (lab q) < n:=by omega
    have i1:=h.idem hs hp
    have i2:=h.idem hs hq
    unfold partsN
    refine countP_one (a:=max (lab p) (lab q)) List.nodup_range (List.mem_range.2 hmx) ?_ ?_ fun u hu hua => ?_
    · rcases Nat.le_total (lab p) (lab q) with hle | hle
      · rw [Nat.max_eq_right hle]; exact decide_eq_true i2
      · rw [Nat.max_eq_left hle]; exact decide_eq_true i1
    · refine decide_eq_false ?_
      rw [hl _ hmx]
      rcases Nat.le_total (lab p) (lab q) with hle | hle
      · rw [Nat.max_eq_right hle,if_pos (.inr i2),Nat.min_eq_left hle]; exact hne
      · rw [Nat.max_eq_left hle,if_pos (.inl i1),Nat.min_eq_right hle]; exact fun e => hne e.symm
    · have hun := List.mem_range.1 hu
      rw [decide_eq_decide,hl u hun]
      have hself:=h.self hun
      split
      · rename_i he
        constructor
        · intro e; omega
        · intro e; omega
      · exact Iff.rfl
theorem parts_none {n : Nat} {lab : Nat→Nat} (h : Lab R n lab) (hR : ∀ u v,¬ R u v) : partsN lab n=n:=by
  have : ∀ u,u < n→lab u=u:=fun u hu => by
    have:=h.con u hu
    generalize lab u=w at this
    cases this with
    | refl => rfl
    | step a _ => exact absurd a (hR _ _)
  unfold partsN
  have e : (List.range n).countP (fun u => decide (lab u=u))=(List.range n).length:=List.countP_eq_length.2 fun u hu => decide_eq_true (this u (List.mem_range.1 hu))
  rw [e,List.length_range]
end
end Go.Proofs.Ytcecojdeljbjoaa.Sx
namespace Go.Proofs.Ytcecojdeljbjoaa.Sx
open Go
structure Vx where
  id : ID
  ring : List Dart
  label : ByteArray
  attr : Int
deriving DecidableEq
structure Ed where
  id : ID
  label : ByteArray
  attr : Int
deriving DecidableEq
def Vx.c (v : Vx) : List TV:=[.int .i64 v.id.s,.int .i64 v.id.n,.sl .shared 3 (rowsBy Dart.c v.ring),.str v.label,.int .i64 v.attr]
def Ed.c (v : Ed) : List TV:=[.int .i64 v.id.s,.int .i64 v.id.n,.str v.label,.int .i64 v.attr]
def allR (l : List Vx) : List Dart:=(l.map Vx.ring).flatten
def othD (x : Dart) : Dart:=⟨x.e,1 - x.d⟩
theorem othD_othD (x : Dart) : othD (othD x)=x:=by
  obtain ⟨e,d⟩:=x; unfold othD; simp only [Dart.mk.injEq,true_and]; omega
theorem othD_inj {x y : Dart} (h : othD x=othD y) : x=y:=by rw [← othD_othD x,h,othD_othD]
def ringAt (l : List Vx) (u : Nat) : List Dart:=(l.getD u ⟨ID0,[],⟨#[]⟩,0⟩).ring
/-! ### which vertices an edge joins -/
def stepV (l : List Vx) (u w : Nat) : Prop:=∃ x,x∈(l.getD u ⟨ID0,[],⟨#[]⟩,0⟩).ring∧othD x∈(l.getD w ⟨ID0,[],⟨#[]⟩,0⟩).ring
end Go.Proofs.Ytcecojdeljbjoaa.Sx
namespace Go.Proofs.Ytcecojdeljbjoaa.Sx
def fat (f : List Nat) (i : Nat) : Nat:=f.getD i 0
structure RootOf (f : List Nat) (n : Nat) (r : Nat→Nat) : Prop where
  len : f.length=n
  le : ∀ i,i < n→fat f i≤i
  up : ∀ i,i < n→r (fat f i)=r i
  top : ∀ i,i < n→fat f i=i→r i=i
theorem fat_set {f : List Nat} {i v u : Nat} (hi : i < f.length) : fat (f.set i v) u=if u=i then v else fat f u:=by
  unfold fat
  rw [List.getD_eq_getElem?_getD,List.getD_eq_getElem?_getD,List.getElem?_set]
  by_cases e : i=u
  · subst e; rw [if_pos rfl,if_pos rfl,if_pos hi]; rfl
  · rw [if_neg e,if_neg (fun h => e h.symm)]
theorem fat_at {f : List Nat} {i : Nat} (hi : i < f.length) : fat f i=f[i]:=by
  unfold fat; rw [List.getD_eq_getElem?_getD,List.getElem?_eq_getElem hi]; rfl
theorem RootOf.self {f : List Nat} {n : Nat} {r : Nat→Nat} (h : RootOf f n r) : ∀ k i,i≤k→i < n→r i≤i∧fat f (r i)=r i:=by
  intro k
  induction k with
  | zero =>
    intro i hk hi
    have h1:=h.le i hi
    have h2:=h.top i hi (by omega)
    rw [h2]
    exact ⟨Nat.le_refl _,by omega⟩
  | succ k ih =>
    intro i hk hi
    have h1:=h.le i hi
    by_cases e : fat f i=i
    · rw [h.top i hi e]; exact ⟨Nat.le_refl _,e⟩
    · have := ih (fat f i) (by omega) (by omega)
      rw [h.up i hi] at this
      exact ⟨by omega,this.2⟩
theorem RootOf.lt {f : List Nat} {n : Nat} {r : Nat→Nat} (h : RootOf f n r) {i : Nat} (hi : i < n) : r i < n:=Nat.lt_of_le_of_lt (h.self i i (Nat.le_refl _) hi).1 hi
theorem RootOf.idem {f : List Nat} {n : Nat} {r : Nat→Nat} (h : RootOf f n r) {i : Nat} (hi : i < n) : r (r i)=r i:=h.top _ (h.lt hi) (h.self i i (Nat.le_refl _) hi).2
theorem RootOf.halve {f : List Nat} {n : Nat} {r : Nat→Nat} (h : RootOf f n r) {i : Nat} (hi : i < n) : RootOf (f.set i (fat f (fat f i))) n r:=by
  have hl:=h.le i hi
  have hl2:=h.le (fat f i) (by omega)
  have hif : i < f.length:=by rw [h.len]; exact hi
  refine ⟨by rw [List.length_set]; exact h.len,fun u hu => ?_,fun u hu => ?_,fun u hu => ?_⟩
  · rw [fat_set hif]
    split
    · omega
    · exact h.le u hu
  · rw [fat_set hif]
    split
    · rename_i e; subst e
      rw [h.up _ (by omega),h.up _ hu]
    · exact h.up u hu
  · rw [fat_set hif]
    split
    · rename_i e; subst e
      intro e
      exact h.top _ hu (by omega)
    · exact h.top u hu
theorem RootOf.joined {f : List Nat} {n : Nat} {r : Nat→Nat} (h : RootOf f n r) {x y : Nat} (hx : x < n) (hy : y < n) : RootOf (f.set (max (r x) (r y)) (min (r x) (r y))) n (fun u => if r u=r x∨r u=r y then min (r x) (r y) else r u):=by
  have hxn:=h.lt hx
  have hyn:=h.lt hy
  have ix:=h.idem hx
  have iy:=h.idem hy
  have hif : max (r x) (r y) < f.length:=by rw [h.len]; omega
  refine ⟨by rw [List.length_set]; exact h.len,fun u hu => ?_,fun u hu => ?_,fun u hu => ?_⟩
  · rw [fat_set hif]
    split
    · omega
    · exact h.le u hu
  · rw [fat_set hif]
    split
    · rename_i e
      subst e
      have e1 : r (min (r x) (r y))=r x∨r (min (r x) (r y))=r y:=by
        rcases Nat.le_total (r x) (r y) with hle | hle
        · rw [Nat.min_eq_left hle]; exact .inl ix
        · rw [Nat.min_eq_right hle]; exact .inr iy
      have e2 : r (max (r x) (r y))=r x∨r (max (r x) (r y))=r y:=by
        rcases Nat.le_total (r x) (r y) with hle | hle
        · rw [Nat.max_eq_right hle]; exact .inr iy
        · rw [Nat.max_eq_left hle]; exact .inl ix
      simp only [if_pos e1,if_pos e2]
    · simp only [h.up u hu]
  · rw [fat_set hif]
    have hself:=(h.self u u (Nat.le_refl _) hu).1
    split
    · rename_i e; subst e
      intro e
      have : r x=r y:=by omega
      rw [this]
      simp only [Nat.max_self,Nat.min_self,iy,or_self,if_true]
    · rename_i hne
      intro e
      have ht:=h.top u hu e
      simp only [ht]
      split
      · omega
      · rfl
theorem RootOf.start (n : Nat) : RootOf (List.range n) n id:=by
  have key : ∀ i,i < n→fat (List.range n) i=i:=fun i hi => by rw [fat_at (by simpa using hi)]; simp
  refine ⟨List.length_range,fun i hi => ?_,fun i hi => ?_,fun i hi _ => rfl⟩
  · rw [key i hi]; exact Nat.le_refl _
  · rw [key i hi]
end Go.Proofs.Ytcecojdeljbjoaa.Sx
namespace Go.Proofs.Ytcecojdeljbjoaa.Sx
open Go
def cNat (k : Nat) : List TV:=[.int .i64 (k : Int)]
theorem keep_arr {g : Hp} {lo id : Nat} (hg : keepLo [] g lo=g) (hid : id < lo) (fz : Bool) (e sz : Nat) (rows : List (List TV)) : keepLo [] (upd g id (some (.arr fz e sz rows))) lo=upd g id (some (.arr fz e sz rows)):=by
  cases lo with
  | zero => omega
  | succ lo =>
    funext k
    show (if k < lo+1 then maskO (lo+1) [] (upd g id _ k) else none)=_
    have hk:=congrFun hg k
    have hk : (if k < lo+1 then maskO (lo+1) [] (g k) else none)=g k:=hk
    unfold upd
    by_cases e : k=id
    · subst e; simp only [if_true,hid]; rfl
    · simp only [if_neg e]; exact hk
theorem keep_map {g : Hp} {lo id : Nat} (hg : keepLo [] g lo=g) (hid : id < lo) (fz k v : Bool) (es : List (List TV × List TV)) : keepLo [] (upd g id (some (.map fz k v es))) lo=upd g id (some (.map fz k v es)):=by
  cases lo with
  | zero => omega
  | succ lo =>
    funext k
    show (if k < lo+1 then maskO (lo+1) [] (upd g id _ k) else none)=_
    have hk:=congrFun hg k
    have hk : (if k < lo+1 then maskO (lo+1) [] (g k) else none)=g k:=hk
    unfold upd
    by_cases e : k=id
    · subst e; simp only [if_true,hid]; rfl
    · simp only [if_neg e]; exact hk
theorem keep_h0 (lo : Nat) : keepLo [] h0 lo=h0:=by
  cases lo with
  | zero => rfl
  | succ lo =>
    funext k
    show (if k < lo+1 then maskO (lo+1) [] (h0 k) else none)=_
    simp [h0,maskO]
theorem row_nat {f : List Nat} {i : Nat} (h : i < f.length) : (rowsBy cNat f)[i]?=some [.int .i64 ((fat f i : Nat) : Int)]:=by rw [rowsBy_get cNat h,fat_at h]; rfl
theorem root_b1 (lo : Nat) (g : Hp) (hlo : 3 < lo) (hlt : lo < 1000000000000) (hg : keepLo [] g lo=g) (f : List Nat) (n : Nat) (r : Nat→Nat) (hn : n≤1000000) (hR : RootOf f n r) (i : Nat) (hi : i < n) : E (cs lbF) lo q109_b1 ⟨upd (upd e0 1 (.v (.int .i64 (i : Int)))) 0 (.s 3 0 n),upd g 3 (some (.arr false 3 1 (rowsBy cNat f)))⟩ =
    some (if fat f i=i then (.exit 0,⟨upd e0 1 (.v (.int .i64 (i : Int))),upd g 3 (some (.arr false 3 1 (rowsBy cNat f)))⟩) else (.norm,⟨upd (upd e0 1 (.v (.int .i64 (fat f (fat f i) : Int)))) 0 (.s 3 0 n),upd g 3 (some (.arr false 3 1 (rowsBy cNat (f.set i (fat f (fat f i))))))⟩)):=by
  have hl:=hR.le i hi
  have hif : i < f.length:=by rw [hR.len]; exact hi
  have hif2 : fat f i < f.length:=by rw [hR.len]; omega
  have r1:=row_nat hif
  have r2:=row_nat hif2
  have i1 : (i : Int) < (n : Int):=by omega
  have i2 : ((fat f i : Nat) : Int) < (n : Int):=by omega
  have k1 : ∀ f,keepLo [] (upd g 3 (some (.arr false 3 1 (rowsBy cNat f)))) lo=upd g 3 (some (.arr false 3 1 (rowsBy cNat f))):=fun f => keep_arr hg hlo _ _ _ _
  have hset : (rowsBy cNat f).set i [.int .i64 ((fat f (fat f i) : Nat) : Int)]=rowsBy cNat (f.set i (fat f (fat f i))):=rowsBy_set cNat f i _
  by_cases e : fat f i=i
  · have e2 : ((fat f i : Nat) : Int) = (i : Int) := by omega
    simp only [q109_b1,if_pos e,r1,i1,e2,k1,hlo,renS,go_sem,seval]
  · have e2 : ¬ ((fat f i : Nat) : Int) = (i : Int) := by omega
    have r3:=row_nat (f:=f.set i (fat f (fat f i))) (i:=i) (by rw [List.length_set]; exact hif)
    rw [fat_set hif,if_pos rfl] at r3
    simp only [q109_b1,if_neg e,r1,r2,i1,i2,e2,k1,hset,hlo,renS,r3,upd_two,storeQ_lt hlt,go_sem,seval]
theorem root_l1 (lo : Nat) (g : Hp) (hlo : 3 < lo) (hlt : lo < 1000000000000) (hg : keepLo [] g lo=g) (n : Nat) (r : Nat→Nat) (hn : n≤1000000) : ∀ k (f : List Nat) (i : Nat),RootOf f n r→i≤k→i < n→∃ f',RootOf f' n r∧E (cs lbF) lo q109_l1 ⟨upd (upd e0 1 (.v (.int .i64 (i : Int)))) 0 (.s 3 0 n),upd g 3 (some (.arr false 3 1 (rowsBy cNat f)))⟩ =
    some (.exit 0,⟨upd e0 1 (.v (.int .i64 (r i : Int))),upd g 3 (some (.arr false 3 1 (rowsBy cNat f')))⟩):=by
  intro k
  induction k with
  | zero =>
    intro f i hR hk hi
    have hl:=hR.le i hi
    have e : fat f i=i:=by omega
    refine ⟨f,hR,?_⟩
    rw [q109_l1_eq,root_b1 lo g hlo hlt hg f n r hn hR i hi,if_pos e,hR.top i hi e]
    rfl
  | succ k ih =>
    intro f i hR hk hi
    have hl:=hR.le i hi
    by_cases e : fat f i=i
    · refine ⟨f, hR, ?_⟩
      rw [q109_l1_eq,root_b1 lo g hlo hlt hg f n r hn hR i hi,if_pos e,hR.top i hi e]
      rfl
    · have hl2 := hR.le (fat f i) (by omega)
      obtain ⟨f',h1,h2⟩:=ih (f.set i (fat f (fat f i))) (fat f (fat f i)) (hR.halve hi) (by omega) (by omega)
      refine ⟨f',h1,?_⟩
      rw [q109_l1_eq,root_b1 lo g hlo hlt hg f n r hn hR i hi,if_neg e]
      have e2 : r (fat f (fat f i))=r i:=by rw [hR.up _ (by omega),hR.up _ hi]
      rw [e2] at h2
      exact h2
theorem root_i (lo : Nat) (g : Hp) (hlo : 3 < lo) (hlt : lo < 1000000000000) (hg : keepLo [] g lo=g) (n : Nat) (r : Nat→Nat) (hn : n≤1000000) (f : List Nat) (i : Nat) (hR : RootOf f n r) (hi : i < n) : ∃ f',RootOf f' n r ∧
    calli lbF 109 lo (upd g 3 (some (.arr false 3 1 (rowsBy cNat f)))) [.s 3 0 n,.v (.int .i64 (i : Int))]=some (.v (.int .i64 (r i : Int)),upd g 3 (some (.arr false 3 1 (rowsBy cNat f')))):=by
  obtain ⟨f',h1,h2⟩:=root_l1 lo g hlo hlt hg n r hn i f i hR (Nat.le_refl _) hi
  refine ⟨f',h1,?_⟩
  have k1 : ∀ f,keepLo [] (upd g 3 (some (.arr false 3 1 (rowsBy cNat f)))) lo=upd g 3 (some (.arr false 3 1 (rowsBy cNat f))):=fun f => keep_arr hg hlo _ _ _ _
  rw [calli_code lbF (fn:=q109) rfl]
  simp only [q109,k1,hlo,renS,h2,go_sem,seval]
theorem join_i (lo : Nat) (g : Hp) (hlo : 3 < lo) (hlt : lo+2000000 < 1000000000000) (hg : ∀ m,lo≤m→keepLo [] g m=g) (n : Nat) (r : Nat→Nat) (hn : n≤1000000) (f : List Nat) (x y : Nat) (hR : RootOf f n r) (hx : x < n) (hy : y < n) : ∃ f',RootOf f' n (fun u => if r u=r x∨r u=r y then min (r x) (r y) else r u) ∧
    calli lbF 108 lo (upd g 3 (some (.arr false 3 1 (rowsBy cNat f)))) [.s 3 0 n,.v (.int .i64 (x : Int)),.v (.int .i64 (y : Int))]=some (.tup [],upd g 3 (some (.arr false 3 1 (rowsBy cNat f')))):=by
  obtain ⟨la,hla⟩ : ∃ la,lo+1000000=la:=⟨_,rfl⟩
  obtain ⟨lb,hlb⟩ : ∃ lb,lo+2000000=lb:=⟨_,rfl⟩
  obtain ⟨f1,h1,h2⟩:=root_i la g (by omega) (by omega) (hg la (by omega)) n r hn f x hR hx
  obtain ⟨f2,h3,h4⟩:=root_i lb g (by omega) (by omega) (hg lb (by omega)) n r hn f1 y h1 hy
  have hlo2 : 3 < la:=by omega
  have hlo3 : 3 < lb:=by omega
  have h5:=h3.joined hx hy
  refine ⟨_,h5,?_⟩
  have k1 : ∀ f,keepLo [] (upd g 3 (some (.arr false 3 1 (rowsBy cNat f)))) lo=upd g 3 (some (.arr false 3 1 (rowsBy cNat f))):=fun f => keep_arr (hg lo (Nat.le_refl _)) hlo _ _ _ _
  have m1 : (if (r y : Int) > (r x : Int) then (r y : Int) else (r x : Int))=((max (r x) (r y) : Nat) : Int):=by split<;>omega
  have m2 : (if (r y : Int) < (r x : Int) then (r y : Int) else (r x : Int))=((min (r x) (r y) : Nat) : Int):=by split<;>omega
  have hxn:=h3.lt hx
  have hyn:=h3.lt hy
  have hm : max (r x) (r y) < n:=by omega
  have i1 : ((max (r x) (r y) : Nat) : Int) < (n : Int):=by omega
  have r1:=row_nat (f:=f2) (i:=max (r x) (r y)) (by rw [h3.len]; exact hm)
  have hset : (rowsBy cNat f2).set (max (r x) (r y)) [.int .i64 ((min (r x) (r y) : Nat) : Int)]=rowsBy cNat (f2.set (max (r x) (r y)) (min (r x) (r y))):=rowsBy_set cNat f2 _ _
  rw [calli_code lbF (fn:=q108) rfl]
  generalize max (r x) (r y)=mx at *
  generalize min (r x) (r y)=mn at *
  simp only [q108,k1,hla,hlb,hlo,hlo2,hlo3,renS,h2,h4,m1,m2,i1,r1,hset,upd_two,storeQ_lt (show lo < 1000000000000 by omega),go_sem,seval]
end Go.Proofs.Ytcecojdeljbjoaa.Sx
namespace Go.Proofs.Ytcecojdeljbjoaa.Sx
open Go
def keyQ (x : Dart) : List LV:=[LV.v (TV.int IntKind.i64 x.e.s),LV.v (TV.int IntKind.i64 x.e.n),LV.v (TV.int IntKind.i64 x.d)]
theorem eqcQ (x d : Dart) : eqCells [Lk.i,Lk.i,Lk.i] (keyQ x) (liftV (Dart.c d))=some (decide (x=d)):=by
  unfold keyQ
  simp only [Dart.c,go_sem,seval]
def mapP (s : List (Dart × Nat)) : List (List TV × List TV):=s.map fun p => (Dart.c p.1,[TV.int .i64 (p.2 : Int)])
theorem find_mapP (x : Dart) : ∀ s : List (Dart × Nat),findM [Lk.i,Lk.i,Lk.i] (keyQ x) (mapP s)=some ((s.find? fun p => decide (x=p.1)).map fun p => [TV.int .i64 (p.2 : Int)])
  | [] => rfl
  | d :: s => by
    show findM [Lk.i,Lk.i,Lk.i] (keyQ x) ((Dart.c d.1,[TV.int .i64 (d.2 : Int)]) :: mapP s)=_
    rw [findM,eqcQ,List.find?_cons]
    by_cases h : x=d.1
    · rw [decide_eq_true h]; rfl
    · rw [decide_eq_false h]
      simp only []
      exact find_mapP x s
theorem upd_mapP (x : Dart) (k : Nat) : ∀ s : List (Dart × Nat),(∀ p∈s,x≠p.1)→updM [Lk.i,Lk.i,Lk.i] (keyQ x) (Dart.c x) [TV.int .i64 (k : Int)] (mapP s)=some (mapP (s++[(x,k)]))
  | [],_ => rfl
  | d :: s, h => by
    show updM [Lk.i,Lk.i,Lk.i] (keyQ x) (Dart.c x) [TV.int .i64 (k : Int)] ((Dart.c d.1,[TV.int .i64 (d.2 : Int)]) :: mapP s)=_
    rw [updM,eqcQ,decide_eq_false (h d (by simp))]
    simp only []
    rw [upd_mapP x k s fun p hp => h p (by simp [hp])]
    rfl
def plR (r : List Dart) (k : Nat) : List (Dart × Nat):=r.map fun x => (x,k)
def plN (l : List Vx) (i : Nat) : List (Dart × Nat):=((List.range i).map fun i => plR (ringAt l i) i).flatten
theorem plN_succ (l : List Vx) (i : Nat) : plN l (i+1)=plN l i++plR (ringAt l i) i:=by
  unfold plN; rw [List.range_succ,List.map_append,List.flatten_append]; simp
theorem plN_mem {l : List Vx} {i : Nat} {p : Dart × Nat} : p∈plN l i↔p.2 < i∧p.1∈ringAt l p.2:=by
  unfold plN
  rw [List.mem_flatten]
  constructor
  · rintro ⟨s, hs, hp⟩
    obtain ⟨j,hj,rfl⟩:=List.mem_map.1 hs
    unfold plR at hp
    obtain ⟨x,hx,rfl⟩:=List.mem_map.1 hp
    exact ⟨List.mem_range.1 hj,hx⟩
  · rintro ⟨h1, h2⟩
    refine ⟨_,List.mem_map.2 ⟨p.2,List.mem_range.2 h1,rfl⟩,?_⟩
    unfold plR
    exact List.mem_map.2 ⟨p.1,h2,rfl⟩
theorem ringQ_lt {l : List Vx} {u : Nat} (h : u < l.length) : ringAt l u=l[u].ring:=by
  unfold ringAt; rw [List.getD_eq_getElem?_getD,List.getElem?_eq_getElem h]; rfl
theorem ringQ_one : ∀ {l : List Vx},(allR l).Nodup→∀ {u w : Nat} (hu : u < l.length) (hw : w < l.length) {x : Dart},x∈l[u].ring→x∈l[w].ring→u=w
  | [],_,u,_,hu,_,_,_,_ => absurd hu (Nat.not_lt_zero _)
  | v :: l, hn, u, w, hu, hw, x, h, k => by
    have hall : allR (v :: l)=v.ring++allR l:=by simp [allR]
    rw [hall,List.nodup_append] at hn
    have mem : ∀ {j : Nat} (hj : j < l.length),x∈l[j].ring→x∈allR l:=fun hj hx => List.mem_flatten.2 ⟨_,List.mem_map.2 ⟨_,List.getElem_mem hj,rfl⟩,hx⟩
    cases u with
    | zero =>
      cases w with
      | zero => rfl
      | succ w => exact absurd rfl (hn.2.2 x h x (mem (by simpa using hw) k))
    | succ u =>
      cases w with
      | zero => exact absurd rfl (hn.2.2 x k x (mem (by simpa using hu) h))
      | succ w => rw [ringQ_one hn.2.1 (by simpa using hu) (by simpa using hw) h k]
theorem ringQ_nodup {l : List Vx} (hn : (allR l).Nodup) {u : Nat} (hu : u < l.length) : (l[u].ring).Nodup:=by
  induction l generalizing u with
  | nil => exact absurd hu (Nat.not_lt_zero _)
  | cons v l ih =>
    have hall : allR (v :: l)=v.ring++allR l:=by simp [allR]
    rw [hall,List.nodup_append] at hn
    cases u with
    | zero => exact hn.1
    | succ u => exact ih hn.2.1 (by simpa using hu)
theorem c_OtherQ (x : Dart) (h : x.d=0∨x.d=1) : call lbF 100 [.agg [.int .i64 x.e.s,.int .i64 x.e.n,.int .i64 x.d]]=some (.agg [.int .i64 x.e.s,.int .i64 x.e.n,.int .i64 (1 - x.d)]):=by
  obtain ⟨e,d⟩:=x
  rcases h with h | h
  · simp only at h; subst h
    rw [call_code lbF (fn:=q100) rfl]
    simp only [q100,show IntKind.i64.wrap (xorB .i64 0 1)=1 from by decide,go_sem,seval]
  · simp only at h; subst h
    rw [call_code lbF (fn:=q100) rfl]
    simp only [q100,show IntKind.i64.wrap (xorB .i64 1 1)=0 from by decide,go_sem,seval]
def FitL (l : List Vx) : Prop:=l.length≤100000∧∀ v∈l,v.ring.length≤100000
theorem lb_L2 (l : List Vx) (i : Nat) (hi : i < l.length) (hl : FitL l) (rows : List (List TV)) (fl : Nat) (s : List (Dart × Nat)) (hn : (l[i].ring).Nodup) (hs : ∀ p∈s,p.1∉l[i].ring) : E (cs lbF) 0 lb_l2 (⟨(upd (upd (upd (upd (upd (upd (upd (upd (upd Sx.e0 32 (.v (.int .i64 (0)))) 31 (.v (.int .i64 ((l[i].ring.length : Int))))) 30 (.v (.sl .shared 3 (rowsBy Dart.c l[i].ring)))) 20 (.v (.int .i64 ((i : Int))))) 19 (.v (.int .i64 ((l.length : Int))))) 18 (.v (.sl .shared 5 (rowsBy Vx.c l)))) 5 (.v (.int .i64 ((i : Int))))) 4 (.m 4)) 3 (.s 3 0 fl)),(upd (upd Sx.h0 4 (some (.map false true false (mapP s)))) 3 (some (.arr false 3 1 rows)))⟩ : St) =
    some (.exit 2,(⟨(upd (upd (upd (upd (upd Sx.e0 20 (.v (.int .i64 ((i : Int))))) 19 (.v (.int .i64 ((l.length : Int))))) 18 (.v (.sl .shared 5 (rowsBy Vx.c l)))) 4 (.m 4)) 3 (.s 3 0 fl)),(upd (upd Sx.h0 4 (some (.map false true false (mapP (s++plR l[i].ring i))))) 3 (some (.arr false 3 1 rows)))⟩ : St)):=by
  have hle:=hl.2 _ (List.getElem_mem hi)
  generalize l[i].ring=r at *
  have key:=loop_to (C:=cs lbF) (lo:=0) (b:=lb_b2) (fun k => (⟨(upd (upd (upd (upd (upd (upd (upd (upd (upd Sx.e0 32 (.v (.int .i64 ((k : Int))))) 31 (.v (.int .i64 ((r.length : Int))))) 30 (.v (.sl .shared 3 (rowsBy Dart.c r)))) 20 (.v (.int .i64 ((i : Int))))) 19 (.v (.int .i64 ((l.length : Int))))) 18 (.v (.sl .shared 5 (rowsBy Vx.c l)))) 5 (.v (.int .i64 ((i : Int))))) 4 (.m 4)) 3 (.s 3 0 fl)),(upd (upd Sx.h0 4 (some (.map false true false (mapP (s++plR (r.take k) i))))) 3 (some (.arr false 3 1 rows)))⟩ : St)) r.length (r:=(.exit 2,(⟨(upd (upd (upd (upd (upd Sx.e0 20 (.v (.int .i64 ((i : Int))))) 19 (.v (.int .i64 ((l.length : Int))))) 18 (.v (.sl .shared 5 (rowsBy Vx.c l)))) 4 (.m 4)) 3 (.s 3 0 fl)),(upd (upd Sx.h0 4 (some (.map false true false (mapP (s++plR r i))))) 3 (some (.arr false 3 1 rows)))⟩ : St))) ?_ ?_ (by simp)
  · have e0 : s ++ plR (r.take 0) i = s := by simp [plR]
    simp only [e0] at key
    exact key
  · intro k hk
    have h1z : (k : Int) < (r.length : Int):=by omega
    have u1:=upd_mapP r[k] i (s++plR (r.take k) i) (by
      intro p hp
      rcases List.mem_append.1 hp with h | h
      · exact fun e => hs p h (e ▸ List.getElem_mem hk)
      · unfold plR at h
        obtain ⟨x,hx,rfl⟩:=List.mem_map.1 h
        intro e
        have e : r[k]=x:=e
        subst e
        obtain ⟨j,hj,h2⟩:=List.mem_take_iff_getElem.1 hx
        have:=(List.getElem_inj hn).1 h2
        omega)
    have e3 : s++plR (r.take (k+1)) i=s++plR (r.take k) i++[(r[k],i)]:=by
      unfold plR; rw [List.take_succ_eq_append_getElem hk,List.map_append,List.append_assoc]; rfl
    rw [e3]
    generalize s++plR (r.take k) i=s2 at *
    generalize s2++[(r[k],i)]=s3 at *
    simp only [keyQ,Dart.c] at u1
    simp only [lb_b2,dec_lt hk,h1z,rowsBy_get Dart.c hk,Dart.c,u1,wrap_succ hk (show r.length≤9223372036854775807 by omega),go_sem,seval]
  · rw [List.take_length]
    simp only [lb_b2,dec_ge (Nat.le_refl r.length),go_sem,seval]
theorem range_nat (i : Nat) : rowsBy cNat (List.range (i+1))=rowsBy cNat (List.range i)++[[TV.int .i64 (i : Int)]]:=by
  rw [List.range_succ,rowsBy_map,rowsBy_map,List.map_append]; rfl
theorem lb_L1 (l : List Vx) (hl : FitL l) (hn : (allR l).Nodup) : E (cs lbF) 0 lb_l1 (⟨(upd (upd (upd (upd (upd Sx.e0 20 (.v (.int .i64 (0)))) 19 (.v (.int .i64 ((l.length : Int))))) 18 (.v (.sl .shared 5 (rowsBy Vx.c l)))) 4 (.m 4)) 3 (.s 3 0 0)),(upd (upd Sx.h0 4 (some (.map false true false []))) 3 (some (.arr false 3 1 [])))⟩ : St) =
    some (.exit 0,(⟨(upd (upd Sx.e0 4 (.m 4)) 3 (.s 3 0 l.length)),(upd (upd Sx.h0 4 (some (.map false true false (mapP (plN l l.length))))) 3 (some (.arr false 3 1 (rowsBy cNat (List.range l.length)))))⟩ : St)):=by
  have hle:=hl.1
  have key:=loop_to (C:=cs lbF) (lo:=0) (b:=lb_b1) (fun i => (⟨(upd (upd (upd (upd (upd Sx.e0 20 (.v (.int .i64 ((i : Int))))) 19 (.v (.int .i64 ((l.length : Int))))) 18 (.v (.sl .shared 5 (rowsBy Vx.c l)))) 4 (.m 4)) 3 (.s 3 0 i)),(upd (upd Sx.h0 4 (some (.map false true false (mapP (plN l i))))) 3 (some (.arr false 3 1 (rowsBy cNat (List.range i)))))⟩ : St)) l.length (r:=(.exit 0,(⟨(upd (upd Sx.e0 4 (.m 4)) 3 (.s 3 0 l.length)),(upd (upd Sx.h0 4 (some (.map false true false (mapP (plN l l.length))))) 3 (some (.arr false 3 1 (rowsBy cNat (List.range l.length)))))⟩ : St))) ?_ ?_ (by simp)
  · exact key
  · intro i hi
    have h1z : (i : Int) < (l.length : Int):=by omega
    have hr:=hl.2 _ (List.getElem_mem hi)
    have k1:=lb_L2 l i hi hl (rowsBy cNat (List.range (i+1))) (i+1) (plN l i) (ringQ_nodup hn hi) (fun p hp h => by
      obtain ⟨h1,h2⟩:=plN_mem.1 hp
      rw [ringQ_lt (by omega)] at h2
      have:=ringQ_one hn (by omega) hi h2 h
      omega)
    rw [range_nat] at k1
    rw [plN_succ,ringQ_lt hi,range_nat]
    generalize plN l i++plR l[i].ring i=s3 at *
    generalize plN l i=s2 at *
    have hlr : (rowsBy cNat (List.range i)).length=i:=by rw [rowsBy_map,List.length_map,List.length_range]
    generalize rowsBy cNat (List.range i)=q at *
    have e1 : q.take i=q:=by rw [← hlr,List.take_length]
    have h8 : (i+1) * 8≤140737488355328:=by omega
    simp only [lb_b1,dec_lt hi,h1z,rowsBy_get Vx.c hi,Vx.c,k1,h8,hlr,e1,wrap_succ hi (show l.length≤9223372036854775807 by omega),go_sem,seval]
  · simp only [lb_b1,dec_ge (Nat.le_refl l.length),go_sem,seval]
def labS (l : List Vx) (fz : Bool) (f : List Nat) : St:=(⟨(upd (upd Sx.e0 4 (.m 4)) 3 (.s 3 0 l.length)),(upd (upd Sx.h0 4 (some (.map fz true false (mapP (plN l l.length))))) 3 (some (.arr false 3 1 (rowsBy cNat f))))⟩ : St)
theorem keep_2 (f : List Nat) (fz : Bool) (es : List (List TV × List TV)) : keepLo [] (upd (upd h0 4 (some (.map fz true false es))) 3 (some (.arr false 3 1 (rowsBy cNat f)))) 1000000=upd (upd h0 4 (some (.map fz true false es))) 3 (some (.arr false 3 1 (rowsBy cNat f))) :=
  keep_arr (keep_map (keep_h0 _) (by decide) _ _ _ _) (by decide) _ _ _ _
theorem lb_round (l : List Vx) (hl : FitL l) (f : List Nat) (r : Nat→Nat) (hR : RootOf f l.length r) (x : Dart) (u w : Nat) (hu : u < l.length) (hw : w < l.length) (hx : x.d=0∨x.d=1)
    (hf : (plN l l.length).find? (fun p => decide (othD x=p.1))=some (othD x,w)) : ∃ f',RootOf f' l.length (fun v => if r v=r u∨r v=r w then min (r u) (r w) else r v) ∧
    E (cs lbF) 0 (.seq (.region lb_os lb_g15) lb_bd) (((lb_g14).run 0 (((labS l true f).set 43 .u).set 44 (.v (.bool true)))).set 45 (.tup [.agg (liftV (Dart.c x)),.v (.int .i64 (u : Int))]))=some (.norm,labS l true f'):=by
  obtain ⟨f',h1,h2⟩:=join_i 1000000 (upd h0 4 (some (.map true true false (mapP (plN l l.length))))) (by decide) (by decide) (fun m hm => keep_map (keep_h0 _) (by omega) _ _ _ _) l.length r (by have:=hl.1; omega) f u w hR hu hw
  refine ⟨f',h1,?_⟩
  have c1:=c_OtherQ x hx
  have m1:=find_mapP (othD x) (plN l l.length)
  rw [hf] at m1
  simp only [keyQ,othD,Option.map_some] at m1
  unfold labS
  generalize mapP (plN l l.length)=mm at *
  simp only [lb_os,lb_bd,lb_g14,lb_g15,Dart.c,c1,m1,h2,keep_2,Nat.reduceLT,go_sem,seval]
theorem lb_pre (l : List Vx) (es : List TV) (ev : TV) (hl : FitL l) (hn : (allR l).Nodup) : ∃ s1 s2 s3,E (cs lbF) 0 lb_x1 (start [.agg [.sl .shared 5 (rowsBy Vx.c l),ev]])=some (.norm,s1)∧E (cs lbF) 0 lb_x2 s1=some (.norm,s2)∧E (cs lbF) 0 lb_x3 s2=some (.norm,s3)∧E (cs lbF) 0 lb_x4 s3=some (.norm,labS l false (List.range l.length)):=by
  refine ⟨(⟨(upd Sx.e0 1 (.p 1 0)),(upd Sx.h0 1 (some (.var false [(.v (.sl .shared 5 (rowsBy Vx.c l))),(.v ev)])))⟩ : St),(⟨(upd (upd Sx.e0 3 (.s 3 0 0)) 1 (.p 1 0)),(upd (upd Sx.h0 3 (some (.arr false 3 1 []))) 1 (some (.var false [(.v (.sl .shared 5 (rowsBy Vx.c l))),(.v ev)])))⟩ : St),(⟨(upd (upd (upd Sx.e0 4 (.m 4)) 3 (.s 3 0 0)) 1 (.p 1 0)),(upd (upd (upd Sx.h0 4 (some (.map false true false []))) 3 (some (.arr false 3 1 []))) 1 (some (.var false [(.v (.sl .shared 5 (rowsBy Vx.c l))),(.v ev)])))⟩ : St),?_,?_,?_,?_⟩
  · simp only [lb_x1,start,go_sem,seval]
  · simp only [lb_x2,go_sem,seval]
  · simp only [lb_x3,go_sem,seval]
  · have k1 := lb_L1 l hl hn
    unfold labS
    simp only [lb_x4,k1,go_sem,seval]
def labE (n : Nat) (r : Nat→Nat) : St:=if n=0 then ⟨upd e0 2 (.v (.sl (.tight 3) 1 [])),h0⟩ else ⟨upd e0 2 (.s 2 0 n),upd h0 2 (some (.arr false 3 1 (rowsBy cNat ((List.range n).map r))))⟩
def labG13 (r : Nat→Nat) (i : Nat) : Hp:=if i=0 then h0 else upd h0 13 (some (.arr false 3 1 (rowsBy cNat ((List.range i).map r))))
theorem labG13_keep (r : Nat→Nat) (i m : Nat) (hm : 13 < m) : keepLo [] (labG13 r i) m=labG13 r i:=by
  unfold labG13
  split
  · exact keep_h0 m
  · exact keep_arr (keep_h0 m) hm _ _ _ _
theorem row_map (r : Nat→Nat) (i : Nat) : rowsBy cNat ((List.range (i+1)).map r)=rowsBy cNat ((List.range i).map r)++[[TV.int .i64 (r i : Int)]]:=by
  rw [List.range_succ,List.map_append,rowsBy_map,rowsBy_map,List.map_append]; rfl
theorem lb_L3 (n : Nat) (r : Nat→Nat) (hn : n≤100000) (f : List Nat) (hR : RootOf f n r) (mm : List (List TV × List TV)) : E (cs lbF) 0 lb_R ⟨upd e0 3 (.s 3 0 n),upd (upd h0 4 (some (.map true true false mm))) 3 (some (.arr false 3 1 (rowsBy cNat f)))⟩=some (.ret,labE n r):=by
  have ex : ∀ p : List Nat × Nat,∃ f',RootOf p.1 n r→p.2 < n→(RootOf f' n r∧calli lbF 109 1000000 (upd (labG13 r p.2) 3 (some (.arr false 3 1 (rowsBy cNat p.1)))) [.s 3 0 n,.v (.int .i64 (p.2 : Int))]=some (.v (.int .i64 (r p.2 : Int)),upd (labG13 r p.2) 3 (some (.arr false 3 1 (rowsBy cNat f'))))):=by
    rintro ⟨q,i⟩
    by_cases h : RootOf q n r∧i < n
    · obtain ⟨f', h1, h2⟩ := root_i 1000000 (labG13 r i) (by decide) (by decide) (labG13_keep r i _ (by decide)) n r (by omega) q i h.1 h.2
      exact ⟨f',fun _ _ => ⟨h1,h2⟩⟩
    · exact ⟨q,fun h1 h2 => absurd ⟨h1,h2⟩ h⟩
  obtain ⟨G,hG⟩:=Classical.axiomOfChoice ex
  obtain ⟨Fq,hF0,hFs⟩ : ∃ Fq : Nat→List Nat,Fq 0=f∧∀ i,Fq (i+1)=G (Fq i,i):=⟨fun i => Nat.rec f (fun i q => G (q,i)) i,rfl,fun _ => rfl⟩
  have hRi : ∀ i,i≤n→RootOf (Fq i) n r:=by
    intro i
    induction i with
    | zero => intro _; rw [hF0]; exact hR
    | succ i ih => intro hi; rw [hFs]; exact (hG (Fq i,i) (ih (by omega)) (by show i < n; omega)).1
  have hC : ∀ i,i < n→calli lbF 109 1000000 (upd (labG13 r i) 3 (some (.arr false 3 1 (rowsBy cNat (Fq i))))) [.s 3 0 n,.v (.int .i64 (i : Int))]=some (.v (.int .i64 (r i : Int)),upd (labG13 r i) 3 (some (.arr false 3 1 (rowsBy cNat (Fq (i+1)))))):=fun i hi => by
    have:=(hG (Fq i,i) (hRi i (by omega)) (by show i < n; exact hi)).2
    rw [← hFs] at this
    exact this
  have key:=loop_grow (C:=cs lbF) (lo:=0) (b:=lb_b3) (⟨(upd (upd (upd (upd Sx.e0 62 (.v (.int .i64 (0)))) 61 (.v (.int .i64 ((n : Int))))) 13 (.v (.sl (.tight 3) 1 []))) 3 (.s 3 0 n)),(upd Sx.h0 3 (some (.arr false 3 1 (rowsBy cNat (Fq 0)))))⟩ : St) (fun i => (⟨(upd (upd (upd (upd Sx.e0 62 (.v (.int .i64 ((i : Int))))) 61 (.v (.int .i64 ((n : Int))))) 13 (.s 13 0 i)) 3 (.s 3 0 n)),(upd (upd Sx.h0 13 (some (.arr false 3 1 (rowsBy cNat ((List.range i).map r))))) 3 (some (.arr false 3 1 (rowsBy cNat (Fq i)))))⟩ : St)) n (r0:=(.exit 6,(⟨(upd Sx.e0 13 (.v (.sl (.tight 3) 1 []))),Sx.h0⟩ : St))) (r:=(.exit 6,(⟨(upd Sx.e0 13 (.s 13 0 n)),(upd Sx.h0 13 (some (.arr false 3 1 (rowsBy cNat ((List.range n).map r)))))⟩ : St))) ?_ (by simp) ?_ ?_ ?_ (by simp)
  · rw [hF0] at key
    unfold labE
    by_cases h0 : n=0
    · rw [if_pos h0] at key ⊢
      have key : E (cs lbF) 0 lb_l3 _=_:=key
      simp only [lb_R,key,go_sem,seval]
    · rw [if_neg h0] at key ⊢
      have key : E (cs lbF) 0 lb_l3 _=_:=key
      simp only [lb_R,key,go_sem,seval]
  · intro h0; subst h0
    simp only [lb_b3,go_sem,seval]
  · intro hpos
    have c0:=hC 0 hpos
    unfold labG13 at c0
    rw [if_pos rfl] at c0
    have h0n : (0 : Int) < (n : Int):=by omega
    have hz : ((0 : Nat) : Int)=0:=rfl
    rw [hz] at c0
    have hk : ∀ q : List Nat,keepLo [] (upd h0 3 (some (.arr false 3 1 (rowsBy cNat q)))) 1000000=upd h0 3 (some (.arr false 3 1 (rowsBy cNat q))):=fun q => keep_arr (keep_h0 _) (by decide) _ _ _ _
    have hr1 : rowsBy cNat ((List.range 1).map r)=[[TV.int .i64 (r 0 : Int)]]:=rfl
    rw [hr1]
    generalize rowsBy cNat (Fq 0)=q0 at *
    generalize rowsBy cNat (Fq 1)=q1 at *
    simp only [lb_b3,c0,h0n,decide_eq_true h0n,hk,show IntKind.i64.wrap 1=1 from rfl,Nat.reduceLT,go_sem,seval]
  · intro i hi0 hi
    have c0:=hC i hi
    unfold labG13 at c0
    rw [if_neg (by omega)] at c0
    have h0n : (i : Int) < (n : Int):=by omega
    rw [row_map]
    have hlr : (rowsBy cNat ((List.range i).map r)).length=i:=by rw [rowsBy_map,List.length_map,List.length_map,List.length_range]
    generalize rowsBy cNat ((List.range i).map r)=q at *
    have e1 : q.take i=q:=by rw [← hlr,List.take_length]
    have h8 : (i+1) * 8≤140737488355328:=by omega
    generalize rowsBy cNat (Fq i)=q0 at *
    generalize rowsBy cNat (Fq (i+1))=q1 at *
    simp only [lb_b3,c0,dec_lt hi,h0n,hlr,e1,h8,wrap_succ hi (show n≤9223372036854775807 by omega),Nat.reduceLT,go_sem,seval]
  · intro hpos
    simp only [lb_b3,dec_ge (Nat.le_refl n),go_sem,seval]
end Go.Proofs.Ytcecojdeljbjoaa.Sx
namespace Go.Proofs.Ytcecojdeljbjoaa.Sx
open Go Go.RowKit
theorem mrp_inv {es : List (List TV × List TV)} {run : (List TV × List TV)→St→St→Prop} {inv K : St→Prop} (I : List Nat→St→Prop)
    (hstep : ∀ left st i,left.Nodup→i∈left→I left st→∃ x st',es[i]?=some x∧run x st st'∧I (left.erase i) st') (hinv : ∀ left st,I left st→inv st) (hK : ∀ st,I [] st→K st) :
    ∀ k left st,left.length=k→left.Nodup→I left st→MRP es run inv K k left st:=by
  intro k
  induction k with
  | zero =>
    intro left st hl _ h
    have hl : left=[]:=List.length_eq_zero_iff.1 hl
    subst hl
    exact ⟨hinv _ _ h,rfl,hK _ h⟩
  | succ k ih =>
    intro left st hl hn h
    refine ⟨hinv _ _ h,hl,fun i hi => ?_⟩
    obtain ⟨x,st',h1,h2,h3⟩:=hstep left st i hn hi h
    exact ⟨x,st',h1,h2,ih _ _ (by rw [List.length_erase_of_mem hi,hl]; rfl) (hn.erase i) h3⟩
structure LabOk (l : List Vx) : Prop where
  fit : FitL l
  one : (allR l).Nodup
  oth : ∀ x∈allR l,othD x∈allR l
  side : ∀ x∈allR l,x.d=0∨x.d=1
theorem ringQ_mem {l : List Vx} {u : Nat} {x : Dart} (h : x∈ringAt l u) : u < l.length:=by
  rcases Nat.lt_or_ge u l.length with h1 | h1
  · exact h1
  · unfold ringAt at h
    rw [List.getD_eq_getElem?_getD,List.getElem?_eq_none h1] at h
    cases h
theorem ringQ_all {l : List Vx} {u : Nat} {x : Dart} (h : x∈ringAt l u) : x∈allR l:=by
  have hu:=ringQ_mem h
  rw [ringQ_lt hu] at h
  exact List.mem_flatten.2 ⟨_,List.mem_map.2 ⟨_,List.getElem_mem hu,rfl⟩,h⟩
theorem all_ringQ {l : List Vx} {x : Dart} (h : x∈allR l) : ∃ u,u < l.length∧x∈ringAt l u:=by
  obtain ⟨r,hr,hx⟩:=List.mem_flatten.1 h
  obtain ⟨v,hv,rfl⟩:=List.mem_map.1 hr
  obtain ⟨i,hi,rfl⟩:=List.mem_iff_getElem.1 hv
  exact ⟨i,hi,by rw [ringQ_lt hi]; exact hx⟩
theorem ringQ_uni {l : List Vx} (hn : (allR l).Nodup) {u w : Nat} {x : Dart} (h : x∈ringAt l u) (k : x∈ringAt l w) : u=w:=by
  have hu:=ringQ_mem h
  have hw:=ringQ_mem k
  rw [ringQ_lt hu] at h
  rw [ringQ_lt hw] at k
  exact ringQ_one hn hu hw h k
def stepI (l : List Vx) (i u w : Nat) : Prop:=∃ x p,(plN l l.length)[i]?=some (x,p)∧((u=p∧othD x∈ringAt l w)∨(w=p∧othD x∈ringAt l u))
theorem find_pl {l : List Vx} (h : LabOk l) {x : Dart} {w : Nat} (hx : x∈ringAt l w) : (plN l l.length).find? (fun p => decide (x=p.1))=some (x,w):=by
  have hm : (x,w)∈plN l l.length:=plN_mem.2 ⟨ringQ_mem hx,hx⟩
  cases hf : (plN l l.length).find? (fun p => decide (x=p.1)) with
  | none =>
    have:=List.find?_eq_none.1 hf _ hm
    simp at this
  | some q =>
    have h1:=List.find?_some hf
    have h2:=plN_mem.1 (List.mem_of_find?_eq_some hf)
    obtain ⟨a,b⟩:=q
    have h1 : x=a:=of_decide_eq_true h1
    subst h1
    have:=ringQ_uni h.one hx h2.2
    have : w=b:=this
    subst this
    rfl
def LabI (l : List Vx) (left : List Nat) (st : St) : Prop:=(∀ i∈left,i < (plN l l.length).length)∧∃ (f : List Nat) (r : Nat→Nat) (R : Nat→Nat→Prop),st=labS l true f∧RootOf f l.length r∧Lab R l.length r∧(∀ u w,R u w→R w u)∧∀ u w,R u w↔∃ i,i∉left∧stepI l i u w
def LabK (l : List Vx) (st : St) : Prop:=∃ (f : List Nat) (r : Nat→Nat),st=labS l true f∧RootOf f l.length r∧Lab (stepV l) l.length r
theorem labI_start (l : List Vx) : LabI l (List.range (plN l l.length).length) (labS l true (List.range l.length)):=by
  refine ⟨fun i hi => List.mem_range.1 hi,List.range l.length,id,fun _ _ => False,rfl,RootOf.start _,⟨fun u _ => .refl u,fun u _ v h => ?_⟩,fun _ _ h => h,fun u w => ⟨fun h => h.elim,?_⟩⟩
  · cases h with
    | refl => exact Nat.le_refl _
    | step a _ => exact a.elim
  · rintro ⟨i, h1, x, p, h2, _⟩
    refine h1 (List.mem_range.2 ?_)
    exact (List.getElem?_eq_some_iff.1 h2).1
theorem labI_end (l : List Vx) (st : St) (h : LabI l [] st) : LabK l st:=by
  obtain ⟨_,f,r,R,h1,h2,h3,h4,h5⟩:=h
  refine ⟨f,r,h1,h2,h3.iff fun u w => (h5 u w).trans ⟨?_,?_⟩⟩
  · rintro ⟨i, _, x, p, hi, h⟩
    have hm:=plN_mem.1 (List.mem_of_getElem? hi)
    rcases h with ⟨rfl,h⟩ | ⟨rfl,h⟩
    · exact ⟨x,hm.2,h⟩
    · exact ⟨othD x,h,by rw [othD_othD]; exact hm.2⟩
  · rintro ⟨x, hx, ho⟩
    obtain ⟨i,hi,e⟩:=List.mem_iff_getElem.1 (plN_mem.2 ⟨ringQ_mem hx,hx⟩ : (x,u)∈plN l l.length)
    exact ⟨i,by simp,x,u,by rw [List.getElem?_eq_getElem hi,e],.inl ⟨rfl,ho⟩⟩
theorem labI_step {l : List Vx} (hl : LabOk l) (left : List Nat) (st : St) (i : Nat) (hn : left.Nodup) (hi : i∈left) (h : LabI l left st) : ∃ x st',(mapP (plN l l.length))[i]?=some x ∧
    (∃ v,entL true false x=some v∧E (cs lbF) 0 (.seq (.region lb_os lb_g15) lb_bd) ((lb_g14.run 0 ((st.set 43 .u).set 44 (.v (.bool true)))).set 45 v)=some (.norm,st'))∧LabI l (left.erase i) st':=by
  obtain ⟨h0,f,r,R,rfl,h2,h3,h4,h5⟩:=h
  have hil:=h0 i hi
  obtain ⟨x,u,hxu⟩ : ∃ x u,(plN l l.length)[i]?=some (x,u):=⟨_,_,List.getElem?_eq_getElem hil⟩
  have hm:=plN_mem.1 (List.mem_of_getElem? hxu)
  obtain ⟨hu,hx⟩:=hm
  have hu : u < l.length:=hu
  have hx : x∈ringAt l u:=hx
  obtain ⟨w,hw,ho⟩:=all_ringQ (hl.oth x (ringQ_all hx))
  obtain ⟨f',k1,k2⟩:=lb_round l hl.fit f r h2 x u w hu hw (hl.side x (ringQ_all hx)) (find_pl hl ho)
  refine ⟨(Dart.c x,[.int .i64 (u : Int)]),labS l true f',?_,⟨_,rfl,k2⟩,fun j hj => h0 j (List.mem_of_mem_erase hj),f',_,withE R u w,rfl,k1,h3.more h4 hu hw,fun a b h => ?_,fun a b => ?_⟩
  · unfold mapP; rw [List.getElem?_map,hxu]; rfl
  · rcases h with h | ⟨rfl, rfl⟩ | ⟨rfl, rfl⟩
    · exact .inl (h4 _ _ h)
    · exact .inr (.inr ⟨rfl,rfl⟩)
    · exact .inr (.inl ⟨rfl,rfl⟩)
  · have key : ∀ a b,stepI l i a b↔(a=u∧b=w)∨(a=w∧b=u):=fun a b => by
      constructor
      · rintro ⟨y, p, q1, q2⟩
        rw [hxu] at q1
        obtain ⟨rfl,rfl⟩ : x=y∧u=p:=by simpa using q1
        rcases q2 with ⟨rfl,q⟩ | ⟨rfl,q⟩
        · exact .inl ⟨rfl,ringQ_uni hl.one q ho⟩
        · exact .inr ⟨ringQ_uni hl.one q ho,rfl⟩
      · rintro (⟨rfl, rfl⟩ | ⟨rfl, rfl⟩)
        · exact ⟨x,_,hxu,.inl ⟨rfl,ho⟩⟩
        · exact ⟨x,_,hxu,.inr ⟨rfl,ho⟩⟩
    constructor
    · rintro (h | h)
      · obtain ⟨j, h1, h2⟩ := (h5 a b).1 h
        exact ⟨j,fun hj => h1 (List.mem_of_mem_erase hj),h2⟩
      · exact ⟨i,fun hj => by rw [hn.mem_erase_iff] at hj; exact hj.1 rfl,(key a b).2 h⟩
    · rintro ⟨j, h1, h2⟩
      by_cases e : j=i
      · subst e; exact .inr ((key a b).1 h2)
      · exact .inl ((h5 a b).2 ⟨j,fun hj => h1 ((hn.mem_erase_iff).2 ⟨e,hj⟩),h2⟩)
end Go.Proofs.Ytcecojdeljbjoaa.Sx
namespace Go.Proofs.Ytcecojdeljbjoaa.Sx
open Go Go.RowKit
noncomputable def labV (l : List Vx) : Nat→Nat:=(lab_ex (stepV l) l.length).choose
theorem labV_lab (l : List Vx) : Lab (stepV l) l.length (labV l):=(lab_ex (stepV l) l.length).choose_spec
noncomputable def labT (l : List Vx) : TV:=.sl (.own 3) 1 (rowsBy cNat ((List.range l.length).map (labV l)))
theorem labE_res (l : List Vx) (r : Nat→Nat) (hr : Lab (stepV l) l.length r) : expR (labE l.length r).hp (resLs (labE l.length r) [.tmp 2])=some (labT l):=by
  have e : (List.range l.length).map r=(List.range l.length).map (labV l):=List.map_congr_left fun u hu => hr.uniq (labV_lab l) (List.mem_range.1 hu)
  unfold labE labT
  by_cases h : l.length=0
  · rw [if_pos h, h]
    simp only [List.range_zero,List.map_nil,rowsBy,go_sem,seval]
  · rw [if_neg h, e]
    have hlr : (rowsBy cNat ((List.range l.length).map (labV l))).length=l.length:=by rw [rowsBy_map,List.length_map,List.length_map,List.length_range]
    generalize rowsBy cNat ((List.range l.length).map (labV l))=q at *
    have e1 : q.take l.length=q:=by rw [← hlr,List.take_length]
    simp only [e1,hlr,go_sem,seval]
theorem lb_le1 {N' : Rm} (hn : N'.n=Sl.n lbN) (hK : ∀ s,N'.K s=decide (s=42)) : lbN1.le N':=by
  refine ⟨by rw [hn]; exact Nat.le_refl _,fun d hd => ?_,fun d hd => ?_⟩
  · simp only [Sl.may, lbN1, Bool.and_eq_true, decide_eq_true_eq, Bool.not_eq_true'] at hd
    refine ⟨by rw [hn]; exact of_decide_eq_true hd.1,?_⟩
    rw [hK]
    have h2:=hd.2
    simp only [List.contains_cons,List.contains_nil,Bool.or_false] at h2
    by_cases e : d=42
    · subst e; simp at h2
    · exact decide_eq_false e
  · simp only [lbN1, List.contains_cons, List.contains_nil, Bool.or_false] at hd
    rw [hK]
    exact decide_eq_true (by simpa using hd)
theorem look_all {p : GC→Prop} (h0 : (⟨[],[(0,0),(0,0)]⟩ : GC).ok=true→p ⟨[],[(0,0),(0,0)]⟩) : ∀ (A : List (Nat × GC)),(∀ q∈A,p q.2)→∀ id,(look id A).ok=true→p (look id A)
  | [],_,_,h => h0 h
  | (a, g) :: r, hA, id, h => by
    unfold look at h ⊢
    split
    · exact hA (a,g) (by simp)
    · rename_i e
      rw [if_neg e] at h
      exact look_all h0 r (fun q hq => hA q (by simp [hq])) id h
theorem lb_hA : ∀ id,(look id lbA1).ok=true→maskL 0 (look id lbA1).ids (.m 4)=.m 4:=look_all (p:=fun g => maskL 0 g.ids (.m 4)=.m 4) (fun h => by cases h) _ (by
  intro q hq
  simp only [lbA1,List.mem_cons,List.not_mem_nil,or_false] at hq
  rcases hq with rfl | rfl | rfl | rfl | rfl<;>rfl)
theorem lb_hB : ∀ id,(look id lbB1).ok=true→maskL 0 (look id lbB1).ids (.m 4)=.m 4:=look_all (p:=fun g => maskL 0 g.ids (.m 4)=.m 4) (fun h => by cases h) _ (by
  intro q hq
  simp only [lbB1,List.mem_cons,List.not_mem_nil,or_false] at hq
  rcases hq with rfl<;>rfl)
theorem lb_out (l : List Vx) (f : List Nat) : lb_gO.run 0 (lb_g14.run 0 (((labS l true f).set 43 .u).set 44 (.v (.bool false))))=⟨upd e0 3 (.s 3 0 l.length),upd (upd h0 4 (some (.map true true false (mapP (plN l l.length))))) 3 (some (.arr false 3 1 (rowsBy cNat f)))⟩:=by
  unfold labS
  generalize mapP (plN l l.length)=mm
  simp only [lb_gO,lb_g14,go_sem,seval]
theorem lb_head (l : List Vx) (f : List Nat) : ∃ st1,evOper (cs lbF) 0 (labS l false f) ⟨.mv 41 (.t 4),none⟩=some st1∧st1.env 41=.m 4∧st1.hp 4=some (.map false true false (mapP (plN l l.length))) ∧
    (lb_g13.run 0 (st1.set 42 .u)).hp 4=some (.map false true false (mapP (plN l l.length))) ∧
    (⟨(lb_g13.run 0 (st1.set 42 .u)).env,upd (lb_g13.run 0 (st1.set 42 .u)).hp 4 (some (.map true true false (mapP (plN l l.length))))⟩ : St)=labS l true f:=by
  unfold labS
  generalize mapP (plN l l.length)=mm
  refine ⟨_,rfl,rfl,rfl,?_,?_⟩
  · simp only [lb_g13,go_sem,seval]
  · simp only [lb_g13, go_sem, seval]
    congr 1
    funext k
    unfold upd
    by_cases h1 : k=4
    · subst h1; rfl
    · simp only [if_neg h1]
theorem leaves_key {P : Program} {fn : Func} {t : TV} {M N' : Rm} {w w' : World} {ok ok1 : Nat→Prop} {st : St} {ρ : Rho} {a' : Act} (hres : fn.results.toList.all (resOk P)=true) (hds0 : M.ds=[]) (e' : Ext M N')
    (hx : expR st.hp (resLs st (fn.results.toList.map (cRes P)))=some t) (g' : Gam N' w ok st ok1 ρ a' w') :
    LeavesInM (FR none) 0 P fn a'.tmps (fun e w' => ∃ v,e=.returned v∧Below w.heap.size w w'∧RRep w.heap.size w' ok t v) a'.defers .returning w':=by
  obtain ⟨ms,d1,d2⟩:=e'.ds
  have hds : a'.defers=ms:=by rw [g'.defers,d1,hds0]; simp
  rw [hds]
  refine leaves_marks ms g' d2 e'.gh e'.res fun N3 w3 g3 hgh3 hres3 => ?_
  have g4 : Gam (Rm.plain a'.tmps.size) w ok st ok1 ρ { a' with defers:=[] } w3:=g3.frame rfl rfl (fun _ h => by cases h) (fun _ => by simp only [Rm.plain,LRep]) g3.env (fun _ _ h => by cases h)
  cases hrl : resLs st (fn.results.toList.map (cRes P)) with
  | none => rw [hrl] at hx; cases hx
  | some ls =>
    rw [hrl] at hx
    obtain ⟨us,k1,k2⟩:=resLs_ok (P:=P) g4 hres hrl
    refine ⟨if h : us.toArray.size=1 then us.toArray[0] else .tuple us.toArray,?_,_,rfl,g4.below,expR_ok g4 hx k2 rfl⟩
    have e : results fn a'.tmps=(do let vs ← fn.results.mapM (resSem { a' with defers:=[] }); pure (if h : vs.size=1 then vs[0] else .tuple vs)):=rfl
    rw [e,Array.mapM_eq_mapM_toList]
    simp [k1]
theorem labels_sound (l : List Vx) (ev : TV) (hl : LabOk l) : Sound Try.prog 103 [.agg [.sl .shared 5 (rowsBy Vx.c l),ev]] (labT l):=by
  have hb : Try.f103.body=some (.seq lbX1 (.seq lbX2 (.seq lbX3 (.seq lbX4 (.seq lbM lbR))))):=lb_body
  have hmix : Try.prog.follows .mixedOrders=true:=Checked.mixed Try.checked
  refine ⟨⟨_,Try.func103,by decide,rfl⟩,fun w ok vs hbd hv => ?_⟩
  refine calls_rf (rd:=none) (n:=0) (callsIn_of_wp_marks Try.func103 hb trivial ?_)
  have g0:=start_ok hbd hv (Try.f103.ntmps - vs.toArray.size)
  obtain ⟨M,hM⟩ : ∃ M : Rm,M=⟨(vs.toArray++Array.replicate (Try.f103.ntmps - vs.toArray.size) undef).size,fun _ => false,fun s => (vs.toArray++Array.replicate (Try.f103.ntmps - vs.toArray.size) undef).getD s undef,fun _ => (.u,undef),fun _ => none,[]⟩:=⟨_,rfl⟩
  have g : Gam M w ok (start [.agg [.sl .shared 5 (rowsBy Vx.c l),ev]]) ok (fun _ => none) { tmps:=vs.toArray++Array.replicate (Try.f103.ntmps - vs.toArray.size) undef,defers:=[] } w:=by
    rw [hM]
    exact g0.frame rfl rfl (fun _ _ => rfl) (fun _ => by simp only [LRep]) g0.env (fun _ _ h => by cases h)
  have hN : lbN.le M:=by
    have h0 : Try.f103.ntmps≤(vs.toArray++Array.replicate (Try.f103.ntmps - vs.toArray.size) undef).size:=by simp; omega
    rw [hM]
    refine ⟨h0,fun d hd => ?_,fun d hd => ?_⟩
    · simp only [Sl.may, Bool.and_eq_true, decide_eq_true_eq, Bool.not_eq_true'] at hd
      exact ⟨Nat.lt_of_lt_of_le hd.1 h0,rfl⟩
    · cases hd
  have hvs : vs.toArray.size≤Try.f103.ntmps:=by
    have h1 : vs.length=1:=by
      obtain ⟨v,r,rfl,_,_,rfl⟩:=hv
      rfl
    have h2 : 1≤Try.f103.ntmps:=by decide
    rw [List.size_toArray,h1]; exact h2
  have hMn : M.n=Sl.n lbN:=by
    rw [hM]
    show (vs.toArray++Array.replicate (Try.f103.ntmps - vs.toArray.size) undef).size=Try.f103.ntmps
    simp only [Array.size_append,Array.size_replicate]; omega
  have hst : Stable M 0 lbA lbB:=by rw [hM]; exact ⟨fun _ _ _ => rfl,fun _ _ _ => rfl⟩
  have hgood : GoodAt Try.prog (cs lbF) M 0:=⟨lb_good,fun _ _ _ _ _ _ _ => by rw [hM]; rfl,fun R hR => by cases hR⟩
  have hrg : RgOk lbN none M 0:=fun _ => ⟨rfl,fun _ => by rw [hM]; rfl⟩
  have key:=fun {st : St} {ok1 : Nat→Prop} {ρ : Rho} {a' : Act} {w' : World} {N' : Rm} => leaves_key (P:=Try.prog) (fn:=Try.f103) (t:=labT l) (M:=M) (N':=N') (w:=w) (ok:=ok) (st:=st) (ok1:=ok1) (ρ:=ρ) (a':=a') (w':=w') lb_resok (by rw [hM])
  obtain ⟨s1,s2,s3,x1,x2,x3,x4⟩:=lb_pre l [] ev hl.fit hl.one
  rw [← lb_c1] at x1
  rw [← lb_c2] at x2
  rw [← lb_c3] at x3
  rw [← lb_c4] at x4
  obtain ⟨m1,x1⟩:=(E_some _ _).1 x1
  obtain ⟨m2,x2⟩:=(E_some _ _).1 x2
  obtain ⟨m3,x3⟩:=(E_some _ _).1 x3
  obtain ⟨m4,x4⟩:=(E_some _ _).1 x4
  refine wpIn_seq (code_ok' hmix m1 hgood hN hst hrg lbX1 x1 g fun N1 ok1 ρ1 a1 w1 e1 g1 => ?_)
  refine wpIn_seq (code_ok' hmix m2 (e1.good hgood) (e1.le hN) (e1.stable hst) (e1.rg hrg) lbX2 x2 g1 fun N2 ok2 ρ2 a2 w2 e2' g2 => ?_)
  have e2:=e1.trans e2'
  refine wpIn_seq (code_ok' hmix m3 (e2.good hgood) (e2.le hN) (e2.stable hst) (e2.rg hrg) lbX3 x3 g2 fun N3 ok3 ρ3 a3 w3 e3' g3 => ?_)
  have e3:=e2.trans e3'
  refine wpIn_seq (code_ok' hmix m4 (e3.good hgood) (e3.le hN) (e3.stable hst) (e3.rg hrg) lbX4 x4 g3 fun N4 ok4 ρ4 a4 w4 e4' g4 => ?_)
  have e4:=e3.trans e4'
  obtain ⟨t1,q1,q2,q3,q4,q5⟩:=lb_head l (List.range l.length)
  have hN4:=e4.le hN
  have hMn4 : N4.n=Sl.n lbN:=e4.n.trans hMn
  refine wpIn_seq ?_
  rw [lb_M]
  have hent : (mapP (plN l l.length)).length=(plN l l.length).length:=by unfold mapP; rw [List.length_map]
  refine mrng_ok hmix lb_good rfl (N:=N4) (n:=lbN) (n1:=lbN1) (A0:=lbA) (A1:=lbA1) (B1:=lbB1) (idm:=4) (it:=42) (nxs:=43) (mo:=44) (pr:=45) (x13:=41) (kag:=true) (vag:=false) (ents:=mapP (plN l l.length))
    (t:=126) (kt:=56) (et:=3) hN4 (fun s => ?_) (fun k => ?_) ?_ (by decide) rfl (fun N' h1 h2 => lb_le1 (h1.trans hMn4) h2) lb_may lb_hA lb_hB ?_ ?_ ?_ ?_ ?_ (by kernel_rfl) ?_ lb_r14a lb_r14b lb_e15 lb_r15 (st1:=t1) ?_ q2 q3 ?_ (K:=LabK l) ?_ (fun {N' st ok ρ a w} hK hex g5 => ?_) g4
  · have := e4.K
    rw [this,hM]
  · have := e4.gh
    rw [this,hM]
  · exact hN4.2.1 _ lb_mayit
  · rw [lb_look.1]; rfl
  · rw [lb_look.1]; rfl
  · rw [lb_look.2.1]; rfl
  · rw [lb_look.2.2.1]; rfl
  · rw [lb_look.2.2.2]; rfl
  · exact lb_r13
  · rw [lb_o13]; exact q1
  · rw [lb_look.1]; exact q4
  · rw [lb_look.1, lb_look.2.1, lb_look.2.2.1, lb_cos, lb_cbd, q5, hent]
    refine mrp_inv (LabI l) (fun left st i hn hi hI => labI_step hl left st i hn hi hI) (fun left st hI => ?_) (labI_end l) _ _ _ (by rw [List.length_range]) List.nodup_range (labI_start l)
    obtain ⟨_,f,r,R,rfl,_⟩:=hI
    rfl
  · obtain ⟨f, r, rfl, hR, hLab⟩ := hK
    rw [lb_look.2.1,lb_look.2.2.2,lb_out] at g5
    have e5:=e4.trans hex
    have x5:=lb_L3 l.length r hl.fit.1 f hR (mapP (plN l l.length))
    rw [← lb_cR] at x5
    obtain ⟨m5,x5⟩:=(E_some _ _).1 x5
    show Exit.then _ _ .normal _ _
    refine code_ok' hmix m5 (e5.good hgood) (e5.le hN) (e5.stable hst) (e5.rg hrg) lbR x5 g5 fun N6 ok6 ρ6 a6 w6 e6 g6 => ?_
    refine key (e5.trans e6) ?_ g6
    rw [lb_res]
    exact labE_res l r hLab
theorem rowsBy_inj {α : Type} {c : α→List TV} (h : ∀ x y,c x=c y→x=y) : ∀ {l m : List α},rowsBy c l=rowsBy c m→l=m
  | [],[],_ => rfl
  | [],_ :: _,e => by cases e
  | _ :: _,[],e => by cases e
  | x :: l, y :: m, e => by
    have e : c x :: rowsBy c l=c y :: rowsBy c m:=e
    obtain ⟨e1,e2⟩:=List.cons.inj e
    rw [h _ _ e1,rowsBy_inj h e2]
theorem Dart.c_inj (x y : Dart) (h : Dart.c x=Dart.c y) : x=y:=by
  obtain ⟨⟨a,b⟩,d⟩:=x
  obtain ⟨⟨a',b'⟩,d'⟩:=y
  simpa [Dart.c,and_assoc] using h
theorem Vx.c_inj (x y : Vx) (h : Vx.c x=Vx.c y) : x=y:=by
  obtain ⟨⟨a,b⟩,r,s,t⟩:=x
  obtain ⟨⟨a',b'⟩,r',s',t'⟩:=y
  simp only [Vx.c,List.cons.injEq,TV.int.injEq,TV.sl.injEq,TV.str.injEq,true_and,and_true] at h
  obtain ⟨rfl,rfl,h,rfl,rfl⟩:=h
  rw [rowsBy_inj Dart.c_inj h]
open Classical in
noncomputable def labG (args : List TV) : Option TV:=if h : ∃ l ev,args=[.agg [.sl .shared 5 (rowsBy Vx.c l),ev]]∧LabOk l then some (labT h.choose) else none
theorem labels_ok : EntOK Try.prog 103 (.ext labG):=by
  intro args r h
  unfold labG at h
  split at h
  · rename_i hx
    obtain ⟨ev,e1,e2⟩:=hx.choose_spec
    obtain rfl:=Option.some.inj h
    generalize hx.choose=m at *
    subst e1
    exact labels_sound _ ev e2
  · cases h
theorem labG_eq {l : List Vx} (ev : TV) (hl : LabOk l) : labG [.agg [.sl .shared 5 (rowsBy Vx.c l),ev]]=some (labT l):=by
  have hx : ∃ l' ev',[TV.agg [.sl .shared 5 (rowsBy Vx.c l),ev]]=[TV.agg [.sl .shared 5 (rowsBy Vx.c l'),ev']]∧LabOk l':=⟨l,ev,rfl,hl⟩
  unfold labG
  rw [dif_pos hx]
  have key : ∀ m,(∃ ev',[TV.agg [.sl .shared 5 (rowsBy Vx.c l),ev]]=[TV.agg [.sl .shared 5 (rowsBy Vx.c m),ev']]∧LabOk m)→m=l:=by
    rintro m ⟨ev',e1,_⟩
    simp only [List.cons.injEq,TV.agg.injEq,TV.sl.injEq,true_and,and_true] at e1
    exact (rowsBy_inj Vx.c_inj e1.1).symm
  rw [key _ hx.choose_spec]
end Go.Proofs.Ytcecojdeljbjoaa.Sx
namespace Go.Proofs.Ytcecojdeljbjoaa.Sx
open Go
def nestH (e : TypeId) (sz : Nat) (ps : List (List (List TV))) : Hp:=fun j => match ps[j / 1000000]? with
  | some rows => if j % 1000000=0 then none else if j % 1000000=rows.length then some (.arr false e sz rows) else if j % 1000000 < rows.length then some .dead else none
  | none => none
def cellsFrom (k : Nat) : List (List (List TV))→List LV
  | [] => []
  | rows :: r => .s (k * 1000000+rows.length) 0 rows.length :: cellsFrom (k+1) r
theorem div_nm {k m : Nat} (h : m < 1000000) : (k * 1000000+m) / 1000000=k:=by omega
theorem mod_nm {k m : Nat} (h : m < 1000000) : (k * 1000000+m) % 1000000=m:=by omega
section
variable {e : TypeId} {sz : Nat} {ps : List (List (List TV))}
theorem nestH_at {k m : Nat} (hm : m < 1000000) : nestH e sz ps (k * 1000000+m)=match ps[k]? with
    | some rows => if m=0 then none else if m=rows.length then some (.arr false e sz rows) else if m < rows.length then some .dead else none
    | none => none:=by
  unfold nestH; rw [div_nm hm,mod_nm hm]
theorem nest_at {k : Nat} {rows : List (List TV)} (hk : ps[k]?=some rows) (h0 : 0 < rows.length) (h1 : rows.length < 1000000) : nestH e sz ps (k * 1000000+rows.length)=some (.arr false e sz rows):=by
  rw [nestH_at h1,hk]
  show (if rows.length=0 then none else if rows.length=rows.length then _ else _)=_
  rw [if_neg (by omega),if_pos rfl]
theorem nest_next {k : Nat} {rows : List (List TV)} (hk : ps[k]?=some rows) (h1 : rows.length+1 < 1000000) : nestH e sz ps (k * 1000000+(rows.length+1))=none:=by
  rw [nestH_at h1,hk]
  show (if rows.length+1=0 then none else if rows.length+1=rows.length then _ else if rows.length+1 < rows.length then _ else _)=_
  rw [if_neg (by omega),if_neg (by omega),if_neg (by omega)]
theorem nest_first {m : Nat} (hm : m < 1000000) : nestH e sz ps (ps.length * 1000000+m)=none:=by
  rw [nestH_at hm,List.getElem?_eq_none (Nat.le_refl _)]
theorem nest_hi (hl : ps.length≤1000000) {j : Nat} (hj : 1000000000000≤j) : nestH e sz ps j=none:=by
  unfold nestH
  rw [List.getElem?_eq_none (by omega)]
theorem nest_nil : nestH e sz []=h0:=by
  funext j; rfl
theorem nest_push {rows : List (List TV)} (h1 : rows.length=1) : upd (nestH e sz ps) (ps.length * 1000000+1) (some (.arr false e sz rows))=nestH e sz (ps++[rows]):=by
  funext j
  unfold upd nestH
  by_cases hj : j=ps.length * 1000000+1
  · rw [if_pos hj]
    have d : j / 1000000=ps.length:=by omega
    have m : j % 1000000=1:=by omega
    rw [d,m,List.getElem?_append_right (Nat.le_refl _),Nat.sub_self]
    simp only [List.getElem?_cons_zero,h1,if_true]
    rfl
  · rw [if_neg hj]
    rcases Nat.lt_trichotomy (j / 1000000) ps.length with h | h | h
    · rw [List.getElem?_append_left h]
    · rw [List.getElem?_eq_none (by omega), h, List.getElem?_append_right (Nat.le_refl _), Nat.sub_self]
      simp only [List.getElem?_cons_zero,h1]
      split
      · rfl
      · split
        · omega
        · split
          · omega
          · rfl
    · rw [List.getElem?_eq_none (by omega),List.getElem?_eq_none (by rw [List.length_append]; simp only [List.length_cons,List.length_nil]; omega)]
theorem nest_more {k : Nat} {rows : List (List TV)} (hk : ps[k]?=some rows) (h0 : 0 < rows.length) (h1 : rows.length+1 < 1000000) (x : List TV) :
    upd (upd (nestH e sz ps) (k * 1000000+rows.length) (some .dead)) (k * 1000000+(rows.length+1)) (some (.arr false e sz (rows++[x])))=nestH e sz (ps.set k (rows++[x])):=by
  have hkl : k < ps.length:=(List.getElem?_eq_some_iff.1 hk).1
  funext j
  unfold upd nestH
  rw [List.getElem?_set]
  by_cases hd : k=j / 1000000
  · rw [if_pos hd, if_pos hkl, ← hd, hk]
    have hj : j=k * 1000000+j % 1000000:=by omega
    generalize j % 1000000=m at *
    subst hj
    simp only [List.length_append,List.length_cons,List.length_nil]
    by_cases a1 : m=rows.length+1
    · subst a1
      rw [if_pos rfl,if_neg (by omega),if_pos rfl]
    · rw [if_neg (by omega)]
      by_cases a2 : m=rows.length
      · subst a2
        rw [if_pos rfl,if_neg (by omega),if_neg (by omega),if_pos (by omega)]
      · rw [if_neg (by omega)]
        by_cases a3 : m=0
        · rw [if_pos a3,if_pos a3]
        · rw [if_neg a3, if_neg a3, if_neg a2, if_neg a1]
          by_cases a4 : m < rows.length
          · rw [if_pos a4,if_pos (by omega)]
          · rw [if_neg a4,if_neg (by omega)]
  · rw [if_neg hd,if_neg (by intro e; apply hd; rw [e]; omega),if_neg (by intro e; apply hd; rw [e]; omega)]
theorem keep_hi (j : List (Nat × Nat)) (h : Hp) {k : Nat} (hk : 1000000000000≤k) (o : Option Ob) : keepLo j (upd h k o) 1000000000000=keepLo j h 1000000000000:=by
  funext i
  show (if i < 1000000000000 then maskO 1000000000000 j (upd h k o i) else none)=if i < 1000000000000 then maskO 1000000000000 j (h i) else none
  split
  · rw [upd_ne _ _ (by omega)]
  · rfl
theorem keep_lower (j : List (Nat × Nat)) (h : Hp) {k : Nat} (hk : k < 1000000000000) (o : Option Ob) : keepLo j (upd h k o) 1000000000000=upd (keepLo j h 1000000000000) k (maskO 1000000000000 j o):=by
  funext i
  show (if i < 1000000000000 then maskO 1000000000000 j (upd h k o i) else none)=upd (fun i => if i < 1000000000000 then maskO 1000000000000 j (h i) else none) k _ i
  unfold upd
  by_cases e : i=k
  · subst e; rw [if_pos hk,if_pos rfl,if_pos rfl]
  · rw [if_neg e,if_neg e]
theorem keep_nest (j : List (Nat × Nat)) (hl : ps.length≤1000000) : keepLo j (nestH e sz ps) 1000000000000=nestH e sz ps:=by
  funext i
  show (if i < 1000000000000 then maskO 1000000000000 j (nestH e sz ps i) else none)=_
  split
  · unfold nestH
    split
    · split
      · rfl
      · split
        · rfl
        · split<;>rfl
    · rfl
  · rw [nest_hi hl (by omega)]
theorem cells_length : ∀ (ps : List (List (List TV))) (k : Nat),(cellsFrom k ps).length=ps.length
  | [],_ => rfl
  | _ :: r,k => congrArg (·+1) (cells_length r (k+1))
theorem cells_get : ∀ (ps : List (List (List TV))) (k i : Nat) {rows : List (List TV)},ps[i]?=some rows→(cellsFrom k ps)[i]?=some (.s ((k+i) * 1000000+rows.length) 0 rows.length)
  | [],_,i,_,h => by simp at h
  | q :: r, k, 0, rows, h => by
    simp only [List.getElem?_cons_zero,Option.some.injEq] at h
    subst h; rfl
  | q :: r, k, i + 1, rows, h => by
    have:=cells_get r (k+1) i (by simpa using h)
    rw [show k+1+i=k+(i+1) by omega] at this
    exact this
theorem cells_push : ∀ (ps : List (List (List TV))) (k : Nat) (rows : List (List TV)),cellsFrom k (ps++[rows])=cellsFrom k ps++[.s ((k+ps.length) * 1000000+rows.length) 0 rows.length]
  | [],k,rows => rfl
  | q :: r, k, rows => by
    show _ :: cellsFrom (k+1) (r++[rows])=_ :: (cellsFrom (k+1) r++_)
    rw [cells_push r (k+1) rows,List.length_cons,show k+1+r.length=k+(r.length+1) by omega]
theorem cells_set : ∀ (ps : List (List (List TV))) (k i : Nat) (rows : List (List TV)),i < ps.length→(cellsFrom k ps).set i (.s ((k+i) * 1000000+rows.length) 0 rows.length)=cellsFrom k (ps.set i rows)
  | [],_,i,_,h => absurd h (Nat.not_lt_zero _)
  | q :: r,k,0,rows,_ => rfl
  | q :: r, k, i + 1, rows, h => by
    have:=cells_set r (k+1) i rows (by simpa using h)
    rw [show k+1+i=k+(i+1) by omega] at this
    show _ :: (cellsFrom (k+1) r).set i _=_ :: cellsFrom (k+1) (r.set i rows)
    rw [this]
theorem lk_below {i : Nat} (hi : i < 1000000000000) : ∀ j : List (Nat × Nat),lk 1000000000000 i j=some i
  | [] => if_pos hi
  | (a, b) :: r => by
    unfold lk
    rw [if_neg (by omega)]
    exact lk_below hi r
theorem cells_mask (j : List (Nat × Nat)) : ∀ (ps : List (List (List TV))) (k : Nat),k+ps.length≤100000→(∀ rows∈ps,rows.length < 1000000)→maskCs 1000000000000 j (cellsFrom k ps)=cellsFrom k ps
  | [],_,_,_ => rfl
  | q :: r, k, hk, hl => by
    have h1:=hl q (by simp)
    simp only [List.length_cons] at hk
    show renS 0 q.length (lk 1000000000000 (k * 1000000+q.length) j) :: maskCs 1000000000000 j (cellsFrom (k+1) r)=_
    rw [lk_below (by omega),cells_mask j r (k+1) (by omega) fun rows hr => hl rows (by simp [hr])]
    rfl
theorem cut_one {cs : List LV} {k : Nat} {x : LV} (h : cs[k]?=some x) : cut false cs k 1=some x:=by
  have hk:=(List.getElem?_eq_some_iff.1 h).1
  unfold cut
  rw [if_pos (by omega)]
  have : (cs.drop k).take 1=[x]:=by
    rw [List.drop_eq_getElem_cons hk]
    obtain ⟨_,h2⟩:=List.getElem?_eq_some_iff.1 h
    rw [h2]; rfl
  rw [this]; rfl
end
end Go.Proofs.Ytcecojdeljbjoaa.Sx
namespace Go.Proofs.Ytcecojdeljbjoaa.Sx
open Go
def q96_b1 : ICode:=.seq (.region [⟨.bin 13 false .lss (.t 12) (.t 11),none⟩] ⟨[1,3,4,10,11,12,13],[(1,1),(3,3),(4,4),(10,10)]⟩) (.seq (.cond (.t 13) (.skip) (.seq (.gc ⟨[4],[(4,4)]⟩) (.exit 0))) (.seq (.block 1 (.seq (.region [⟨.mv 14 (.t 12),none⟩,⟨.iaddr 15 (.t 10) (.t 12) 1,none⟩,⟨.load 16 (.t 15) 1 false,none⟩,⟨.mv 5 (.t 14),none⟩,⟨.mv 6 (.t 16),none⟩] ⟨[1,3,4,5,6,10,11,12],[(1,1),(3,3),(4,4),(10,10)]⟩) (.seq (.seq (.region [⟨.mv 17 (.t 6),none⟩,⟨.mv 18 (.t 5),none⟩,⟨.bin 19 false .eql (.t 17) (.t 18),none⟩] ⟨[1,3,4,5,6,10,11,12,19],[(1,1),(3,3),(4,4),(10,10)]⟩) (.cond (.t 19) (.seq (.region [⟨.mv 20 (.t 3),none⟩,⟨.mv 21 (.t 5),none⟩,⟨.mv 22 (.t 4),none⟩,⟨.len 23 false (.t 22),none⟩,⟨.mupd [.i] false false 1 (.t 20) (.t 21) (.t 23),none⟩] ⟨[1,3,4,5,6,10,11,12],[(1,1),(3,3),(4,4),(10,10)]⟩) (.region [⟨.mv 24 (.t 4),none⟩,⟨.bslice 25 75 1 [(.c (.v (.sl (.tight 34) 2 [])))],none⟩,⟨.append 26 (.t 24) (.t 25) 75 1 24,none⟩,⟨.mv 4 (.t 26),none⟩] ⟨[1,3,4,5,6,10,11,12],[(1,1),(3,3),(26,4),(10,10)]⟩)) (.skip))) (.seq (.region [⟨.mv 27 (.t 3),none⟩,⟨.mv 28 (.t 6),none⟩,⟨.mget 29 [.i] false false [(.int .i64 0)] false (.t 27) (.t 28),none⟩,⟨.mv 7 (.t 29),none⟩] ⟨[1,3,4,5,7,10,11,12],[(1,1),(3,3),(4,4),(10,10)]⟩) (.draw [⟨.mv 30 (.t 4),none⟩,⟨.mv 31 (.t 7),none⟩,⟨.mv 32 (.t 4),none⟩,⟨.mv 33 (.t 7),none⟩,⟨.iaddr 34 (.t 32) (.t 33) 1,none⟩,⟨.load 35 (.t 34) 1 false,none⟩,⟨.faddr 36 (.t 1) 0,none⟩,⟨.load 37 (.t 36) 1 false,none⟩,⟨.mv 38 (.t 5),none⟩,⟨.iaddr 39 (.t 37) (.t 38) 5,none⟩,⟨.faddr 40 (.t 39) 0,none⟩,⟨.load 41 (.t 40) 2 true,none⟩,⟨.bslice 42 34 2 [(.t 41)],none⟩,⟨.append 43 (.t 35) (.t 42) 34 2 16,none⟩,⟨.iaddr 44 (.t 30) (.t 31) 1,none⟩,⟨.store (.t 44) (.t 43) 1,none⟩] [0,0,0,0,12,28,0,64,0,448,960,1984,4032,8188,16383,32767] ⟨[1,3,4,10,11,12],[(1,1),(3,3),(4,4),(10,10)]⟩))))) (.region [⟨.bin 45 false .add (.t 12) (.c (.v (.int .i64 1))),none⟩,⟨.mv 12 (.t 45),none⟩] ⟨[1,3,4,10,11,12],[(1,1),(3,3),(4,4),(10,10)]⟩)))
def q96_l1 : ICode:=.loop q96_b1
def q96 : ICode:=.seq (.region [⟨.box 1 (.t 0) 2,none⟩,⟨.mv 2 (.c (.v (.sl (.tight 75) 1 []))),none⟩] ⟨[1],[(1,1)]⟩) (.seq (.region [⟨.mkmap 8 false false,none⟩,⟨.mv 3 (.t 8),none⟩] ⟨[1,3],[(1,1),(8,3)]⟩) (.seq (.region [⟨.mv 4 (.c (.v (.sl (.tight 75) 1 []))),none⟩] ⟨[1,3,4],[(1,1),(3,3)]⟩) (.seq (.seq (.region [⟨.load 9 (.t 1) 2 true,none⟩,⟨.call 10 (.fn 103) [(.t 9)],none⟩,⟨.len 11 false (.t 10),none⟩,⟨.mv 12 (.c (.v (.int .i64 0))),none⟩] ⟨[1,3,4,10,11,12],[(1,1),(3,3),(1640,10)]⟩) (.block 0 (q96_l1))) (.seq (.region [⟨.mv 46 (.t 4),none⟩,⟨.mv 2 (.t 46),none⟩] ⟨[2],[(4,2)]⟩) (.ret)))))

def prA : List (Nat × GC):=[(0,⟨[1],[(1,1)]⟩),(1,⟨[1,3],[(1,1),(8,3)]⟩),(2,⟨[1,3,4],[(1,1),(3,3)]⟩),(3,⟨[1,3,4,10,11,12],[(1,1),(3,3),(1640,10)]⟩),(4,⟨[1,3,4,10,11,12,13],[(1,1),(3,3),(4,4),(10,10)]⟩),(5,⟨[1,3,4,5,6,10,11,12],[(1,1),(3,3),(4,4),(10,10)]⟩),(6,⟨[1,3,4,5,6,10,11,12,19],[(1,1),(3,3),(4,4),(10,10)]⟩),(7,⟨[1,3,4,5,6,10,11,12],[(1,1),(3,3),(4,4),(10,10)]⟩),(8,⟨[1,3,4,5,6,10,11,12],[(1,1),(3,3),(26,4),(10,10)]⟩),(9,⟨[1,3,4,5,7,10,11,12],[(1,1),(3,3),(4,4),(10,10)]⟩),(10,⟨[1,3,4,10,11,12],[(1,1),(3,3),(4,4),(10,10)]⟩),(11,⟨[1,3,4,10,11,12],[(1,1),(3,3),(4,4),(10,10)]⟩),(12,⟨[2],[(4,2)]⟩)]
def prB : List (Nat × GC):=[(0,⟨[4],[(4,4)]⟩),(1,⟨[1,3,4,10,11,12],[]⟩)]
noncomputable def prC : Code:=Try.f96.body.getD .skip
noncomputable def prN : Sl:=⟨Try.f96.ntmps,[],[],true⟩
theorem pr_body : Try.f96.body=some prC:=by kernel_rfl
theorem pr_code : cCode Try.prog prN prA prB prC=q96:=by kernel_rfl
theorem pr_resok : Try.f96.results.toList.all (resOk Try.prog)=true:=by kernel_rfl
theorem pr_res : Try.f96.results.toList.map (cRes Try.prog)=[.tmp 2]:=by kernel_rfl
noncomputable def prF : FuncId→Option FEnt:=fun f => if f=103 then some (.ext labG) else none
theorem pr_good : Good Try.prog (cs prF):=call_good prF (Checked.mixed Try.checked) fun f e h => by
  unfold prF at h
  split at h
  · rename_i hf; subst hf; obtain rfl:=Option.some.inj h; exact labels_ok
  · cases h
theorem pr_lab (args : List TV) : call prF 103 args=labG args:=call_ext prF rfl args
end Go.Proofs.Ytcecojdeljbjoaa.Sx
namespace Go.Proofs.Ytcecojdeljbjoaa.Sx
open Go
def plFrom (k : Nat) : List Nat→List (List TV × List TV)
  | [] => []
  | q :: r => ([.int .i64 (q : Int)],[.int .i64 (k : Int)]) :: plFrom (k+1) r
theorem eqcN (a b : Nat) : eqCells [Lk.i] [LV.v (.int .i64 (a : Int))] (liftV [.int .i64 (b : Int)])=some (decide (a=b)):=by
  have e : decide ((a : Int)=(b : Int))=decide (a=b):=by rw [decide_eq_decide]; omega
  simp only [e,go_sem,seval]
theorem find_plF : ∀ (rs : List Nat) (j k : Nat) {q : Nat},rs.Nodup→rs[k]?=some q→findM [Lk.i] [LV.v (.int .i64 (q : Int))] (plFrom j rs)=some (some [.int .i64 ((j+k : Nat) : Int)])
  | [],_,_,_,_,h => by simp at h
  | p :: rs, j, 0, q, hn, h => by
    simp only [List.getElem?_cons_zero,Option.some.injEq] at h
    subst h
    unfold plFrom
    rw [findM,eqcN,decide_eq_true rfl]
    rfl
  | p :: rs, j, k + 1, q, hn, h => by
    rw [List.nodup_cons] at hn
    have h : rs[k]?=some q:=by simpa using h
    unfold plFrom
    have hne : ¬ q=p:=fun e => hn.1 (e.symm ▸ List.mem_of_getElem? h)
    rw [findM,eqcN,decide_eq_false hne]
    simp only []
    rw [find_plF rs (j+1) k hn.2 h,show j+1+k=j+(k+1) by omega]
theorem upd_plF : ∀ (rs : List Nat) (j : Nat) {q : Nat},q∉rs→updM [Lk.i] [LV.v (.int .i64 (q : Int))] [.int .i64 (q : Int)] [.int .i64 ((j+rs.length : Nat) : Int)] (plFrom j rs)=some (plFrom j (rs++[q]))
  | [],j,q,_ => rfl
  | p :: rs, j, q, hq => by
    simp only [List.mem_cons,not_or] at hq
    have:=upd_plF rs (j+1) hq.2
    rw [show j+1+rs.length=j+(p :: rs).length by simp only [List.length_cons]; omega] at this
    show updM _ _ _ _ (([.int .i64 (p : Int)],[.int .i64 (j : Int)]) :: plFrom (j+1) rs)=_
    rw [updM,eqcN,decide_eq_false hq.1]
    simp only []
    rw [this]; rfl
def prS (l : List Vx) (ev : TV) (labs rs : List Nat) (ps : List (List (List TV))) (i : Nat) : St:=⟨(upd (upd (upd (upd (upd (upd e0 12 (.v (.int .i64 (i : Int)))) 11 (.v (.int .i64 (labs.length : Int)))) 10 (.s 1000000000010 0 labs.length)) 4 (.s 1000000000004 0 ps.length)) 3 (.m 1000000000003)) 1 (.p 1000000000001 0)),(upd (upd (upd (upd (nestH 34 2 ps) 1000000000010 (some (.arr false 3 1 (rowsBy cNat labs)))) 1000000000004 (some (.var false (cellsFrom 0 ps)))) 1000000000003 (some (.map false false false (plFrom 0 rs)))) 1000000000001 (some (.var false [.v (.sl .shared 5 (rowsBy Vx.c l)),.v ev])))⟩
theorem maskO_arr (lo : Nat) (j : List (Nat × Nat)) (f : Bool) (e sz : Nat) (rows : List (List TV)) : maskO lo j (some (.arr f e sz rows))=some (.arr f e sz rows):=rfl
theorem maskO_dead (lo : Nat) (j : List (Nat × Nat)) : maskO lo j (some .dead)=some .dead:=rfl
theorem pr_more (l : List Vx) (ev : TV) (labs rs : List Nat) (ps : List (List (List TV))) (i q k : Nat) (rows : List (List TV)) (hl : FitL l) (hll : labs.length=l.length) (hps : ps.length≤100000) (hpl : ∀ r∈ps,r.length < 500000) (hi : i < l.length)
    (hq : labs[i]?=some q) (hqi : q≠i) (hn : rs.Nodup) (hk : rs[k]?=some q) (hr : ps[k]?=some rows) (h0 : 0 < rows.length) :
    E (cs prF) 1000000000000 q96_b1 (prS l ev labs rs ps i)=some (.norm,prS l ev labs rs (ps.set k (rows++[ID.c l[i].id])) (i+1)):=by
  unfold prS
  have hkl : k < ps.length:=(List.getElem?_eq_some_iff.1 hr).1
  have hrl:=hpl rows (List.mem_of_getElem? hr)
  have hil : i < labs.length:=by omega
  have i1 : (i : Int) < (labs.length : Int):=by omega
  have i2 : (i : Int) < (l.length : Int):=by omega
  have i3 : (k : Int) < (ps.length : Int):=by omega
  have hle:=hl.1
  have row1 : (rowsBy cNat labs)[i]?=some [.int .i64 (q : Int)]:=by
    rw [rowsBy_map,List.getElem?_map,hq]; rfl
  have f1:=find_plF rs 0 k hn hk
  rw [Nat.zero_add] at f1
  have hne : ¬ ((q : Int)=(i : Int)):=by omega
  have c1:=cells_get ps 0 k hr
  rw [Nat.zero_add] at c1
  have c2:=cut_one c1
  have n1:=nest_at (e:=34) (sz:=2) hr h0 (by omega)
  have n2:=nest_next (e:=34) (sz:=2) hr (by omega)
  have km : ∀ j,keepLo j (nestH 34 2 ps) 1000000000000=nestH 34 2 ps:=fun j => keep_nest j (by omega)
  have cm : ∀ j,maskCs 1000000000000 j (cellsFrom 0 ps)=cellsFrom 0 ps:=fun j => cells_mask j ps 0 (by omega) fun r hr => by have:=hpl r hr; omega
  have hi1 : ∀ c,1000000000000≤c→nestH 34 2 ps c=none:=fun c hc => nest_hi (by omega) hc
  have nm:=nest_more (e:=34) (sz:=2) hr h0 (by omega) (ID.c l[i].id)
  simp only [ID.c] at nm
  have cs1:=cells_set ps 0 k (rows++[ID.c l[i].id]) hkl
  rw [Nat.zero_add,List.length_append,List.length_singleton] at cs1
  simp only [ID.c] at cs1
  have a1 : ∀ c,1000000000000≤c→(k * 1000000+rows.length=c)=False:=fun c hc => eq_false (by omega)
  have a2 : ∀ c,1000000000000≤c→(c=k * 1000000+rows.length)=False:=fun c hc => eq_false (by omega)
  have a3 : ∀ c,1000000000000≤c→(k * 1000000+(rows.length+1)=c)=False:=fun c hc => eq_false (by omega)
  have a4 : ∀ c,1000000000000≤c→(c=k * 1000000+(rows.length+1))=False:=fun c hc => eq_false (by omega)
  have a5 : (k * 1000000+(rows.length+1)=k * 1000000+rows.length)=False:=eq_false (by omega)
  have b1 : k * 1000000+rows.length < 1000000000000:=by omega
  have b2 : k * 1000000+(rows.length+1) < 1000000000000:=by omega
  have b3 : (rows.length+1) * 16≤140737488355328:=by omega
  have t1 : rows.take rows.length=rows:=List.take_length
  have hsl : (ps.set k (rows++[ID.c l[i].id])).length=ps.length:=List.length_set
  rw [hsl]
  have km2 : ∀ j,keepLo j (nestH 34 2 (ps.set k (rows++[ID.c l[i].id]))) 1000000000000=nestH 34 2 (ps.set k (rows++[ID.c l[i].id])):=fun j => keep_nest j (by omega)
  have cm2 : ∀ j,maskCs 1000000000000 j (cellsFrom 0 (ps.set k (rows++[ID.c l[i].id])))=cellsFrom 0 (ps.set k (rows++[ID.c l[i].id])):=fun j => cells_mask j _ 0 (by omega) fun r hr => by
    rcases List.mem_or_eq_of_mem_set hr with hr | rfl
    · have:=hpl r hr; omega
    · rw [List.length_append,List.length_singleton]; omega
  simp only [ID.c] at km2 cm2
  generalize hnid : k * 1000000+rows.length=nid at *
  generalize hnid2 : k * 1000000+(rows.length+1)=nid2 at *
  simp only [q96_b1,km2,cm2,hnid,hnid2,keep_lower,keep_hi,List.length_append,hkl,show (0 : Nat) < rows.length+1 from Nat.succ_pos _,maskO_arr,maskO_dead,ID.c,km,cm,hi1,a1,a2,a3,a4,a5,b1,b2,b3,t1,setFrom,cs1,nm,wrap_succ hil (show labs.length≤9223372036854775807 by omega),Nat.le_refl,i1,i2,i3,dec_lt hil,row1,hne,f1,c1,c2,rowsBy_get Vx.c hi,Vx.c,cells_length,n1,n2,Nat.reduceLT,go_sem,seval]
theorem cells_new (ps : List (List (List TV))) (x : List TV) (c : LV) : (cellsFrom 0 ps++[c]).set ps.length (.s (ps.length * 1000000+1) 0 1)=cellsFrom 0 (ps++[[x]]):=by
  rw [cells_push,Nat.zero_add,List.set_append_right _ _ (by rw [cells_length]; exact Nat.le_refl _),cells_length,Nat.sub_self]
  rfl
theorem pr_new (l : List Vx) (ev : TV) (labs rs : List Nat) (ps : List (List (List TV))) (i : Nat) (hl : FitL l) (hll : labs.length=l.length) (hps : ps.length≤99999) (hpl : ∀ r∈ps,r.length < 500000) (hi : i < l.length)
    (hq : labs[i]?=some i) (hn : rs.Nodup) (hri : i∉rs) (hrp : rs.length=ps.length) :
    E (cs prF) 1000000000000 q96_b1 (prS l ev labs rs ps i)=some (.norm,prS l ev labs (rs++[i]) (ps++[[ID.c l[i].id]]) (i+1)):=by
  unfold prS
  have hil : i < labs.length:=by omega
  have i1 : (i : Int) < (labs.length : Int):=by omega
  have i2 : (i : Int) < (l.length : Int):=by omega
  have i3 : (ps.length : Int) < ((ps.length+1 : Nat) : Int):=by omega
  have hle:=hl.1
  have row1 : (rowsBy cNat labs)[i]?=some [.int .i64 (i : Int)]:=by
    rw [rowsBy_map,List.getElem?_map,hq]; rfl
  have f1:=find_plF (rs++[i]) 0 rs.length (q:=i) (by rw [List.nodup_append]; exact ⟨hn,by simp,fun a ha b hb e => by simp only [List.mem_singleton] at hb; subst hb; subst e; exact hri ha⟩) (by simp)
  rw [Nat.zero_add,hrp] at f1
  have u1:=upd_plF rs 0 hri
  rw [Nat.zero_add,hrp] at u1
  have hgl : (cellsFrom 0 ps++[LV.v (.sl (.tight 34) 2 [])])[ps.length]?=some (LV.v (.sl (.tight 34) 2 [])):=by
    rw [List.getElem?_append_right (by rw [cells_length]; exact Nat.le_refl _),cells_length,Nat.sub_self]; rfl
  have c2:=cut_one hgl
  have n2:=nest_first (e:=34) (sz:=2) (ps:=ps) (m:=1) (by decide)
  have km : ∀ j,keepLo j (nestH 34 2 ps) 1000000000000=nestH 34 2 ps:=fun j => keep_nest j (by omega)
  have cm : ∀ j,maskCs 1000000000000 j (cellsFrom 0 ps)=cellsFrom 0 ps:=fun j => cells_mask j ps 0 (by omega) fun r hr => by have:=hpl r hr; omega
  have cm1 : ∀ j,maskCs 1000000000000 j (cellsFrom 0 ps++[LV.v (.sl (.tight 34) 2 [])])=cellsFrom 0 ps++[LV.v (.sl (.tight 34) 2 [])]:=fun j => by
    have app : ∀ (a b : List LV),maskCs 1000000000000 j (a++b)=maskCs 1000000000000 j a++maskCs 1000000000000 j b:=by
      intro a b
      induction a with
      | nil => rfl
      | cons x a ih => show _ :: maskCs _ _ (a++b)=_; rw [ih]; rfl
    rw [app,cm j]; rfl
  have hi1 : ∀ c,1000000000000≤c→nestH 34 2 ps c=none:=fun c hc => nest_hi (by omega) hc
  have nm:=nest_push (e:=34) (sz:=2) (ps:=ps) (rows:=[ID.c l[i].id]) rfl
  simp only [ID.c] at nm
  have cs1:=cells_new ps (ID.c l[i].id) (LV.v (.sl (.tight 34) 2 []))
  simp only [ID.c] at cs1
  have a3 : ∀ c,1000000000000≤c→(ps.length * 1000000+1=c)=False:=fun c hc => eq_false (by omega)
  have a4 : ∀ c,1000000000000≤c→(c=ps.length * 1000000+1)=False:=fun c hc => eq_false (by omega)
  have b2 : ps.length * 1000000+1 < 1000000000000:=by omega
  have b3 : (ps.length+1) * 24≤140737488355328:=by omega
  have b4 : ps.length < ps.length+1:=Nat.lt_succ_self _
  have hsl : (ps++[[ID.c l[i].id]]).length=ps.length+1:=by rw [List.length_append,List.length_singleton]
  have hcl : (cellsFrom 0 ps++[LV.v (.sl (.tight 34) 2 [])]).length=ps.length+1:=by rw [List.length_append,cells_length,List.length_singleton]
  have km2 : ∀ j,keepLo j (nestH 34 2 (ps++[[ID.c l[i].id]])) 1000000000000=nestH 34 2 (ps++[[ID.c l[i].id]]):=fun j => keep_nest j (by omega)
  have cm2 : ∀ j,maskCs 1000000000000 j (cellsFrom 0 (ps++[[ID.c l[i].id]]))=cellsFrom 0 (ps++[[ID.c l[i].id]]):=fun j => cells_mask j _ 0 (by omega) fun r hr => by
    rcases List.mem_append.1 hr with hr | hr
    · have:=hpl r hr; omega
    · simp only [List.mem_singleton] at hr; subst hr; rw [List.length_singleton]; omega
  simp only [ID.c] at km2 cm2
  rw [hsl]
  generalize hnid2 : ps.length * 1000000+1=nid2 at *
  simp only [q96_b1,km2,cm2,hnid2,keep_lower,keep_hi,hcl,b4,maskO_arr,maskO_dead,ID.c,km,cm,cm1,hi1,a3,a4,b2,b3,setFrom,cs1,nm,wrap_succ hil (show labs.length≤9223372036854775807 by omega),Nat.le_refl,i1,i2,i3,dec_lt hil,row1,u1,f1,c2,rowsBy_get Vx.c hi,Vx.c,cells_length,n2,Nat.reduceLT,Nat.lt_irrefl,go_sem,seval]
def prS0 (l : List Vx) (ev : TV) (labs : List Nat) : St:=⟨(upd (upd (upd (upd (upd (upd e0 12 (.v (.int .i64 0))) 11 (.v (.int .i64 (labs.length : Int)))) 10 (.s 1000000000010 0 labs.length)) 4 (.v (.sl (.tight 75) 1 []))) 3 (.m 1000000000003)) 1 (.p 1000000000001 0)),(upd (upd (upd h0 1000000000010 (some (.arr false 3 1 (rowsBy cNat labs)))) 1000000000003 (some (.map false false false []))) 1000000000001 (some (.var false [.v (.sl .shared 5 (rowsBy Vx.c l)),.v ev])))⟩
theorem pr_first (l : List Vx) (ev : TV) (labs : List Nat) (hl : FitL l) (hll : labs.length=l.length) (hi : 0 < l.length) (hq : labs[0]?=some 0) :
    E (cs prF) 1000000000000 q96_b1 (prS0 l ev labs)=some (.norm,prS l ev labs [0] [[ID.c l[0].id]] 1):=by
  unfold prS prS0
  have i1 : (0 : Int) < (labs.length : Int):=by omega
  have i2 : (0 : Int) < (l.length : Int):=by omega
  have d1 : decide ((0 : Int) < (labs.length : Int))=true:=decide_eq_true i1
  have hle:=hl.1
  have row1 : (rowsBy cNat labs)[0]?=some [.int .i64 0]:=by
    rw [rowsBy_map,List.getElem?_map,hq]; rfl
  have nm : upd h0 1 (some (.arr false 34 2 [[.int .i64 l[0].id.s,.int .i64 l[0].id.n]]))=nestH 34 2 [[ID.c l[0].id]]:=by
    have:=nest_push (e:=34) (sz:=2) (ps:=[]) (rows:=[ID.c l[0].id]) rfl
    rw [nest_nil] at this
    exact this
  have km2 : ∀ j,keepLo j (nestH 34 2 [[ID.c l[0].id]]) 1000000000000=nestH 34 2 [[ID.c l[0].id]]:=fun j => keep_nest j (by rw [List.length_singleton]; decide)
  have u1 : updM [Lk.i] [LV.v (.int .i64 0)] [.int .i64 0] [.int .i64 0] []=some [([TV.int .i64 0],[TV.int .i64 0])]:=rfl
  have f1 : findM [Lk.i] [LV.v (.int .i64 0)] [([TV.int .i64 0],[TV.int .i64 0])]=some (some [TV.int .i64 0]):=find_plF [0] 0 0 (q:=0) (by simp) rfl
  have n2 : nestH 34 2 [] 1=none:=rfl
  simp only [ID.c] at km2 nm
  simp only [q96_b1,km2,keep_lower,keep_hi,maskO_arr,maskO_dead,ID.c,setFrom,nm,u1,f1,cut_one (cs:=[LV.v (.sl (.tight 34) 2 [])]) (k:=0) rfl,cellsFrom,plFrom,Nat.le_refl,i1,i2,d1,row1,rowsBy_get Vx.c hi,Vx.c,Nat.reduceLT,show IntKind.i64.wrap 1=1 from rfl,go_sem,seval]
end Go.Proofs.Ytcecojdeljbjoaa.Sx
namespace Go.Proofs.Ytcecojdeljbjoaa.Sx
def rootsTo (r : Nat→Nat) (i : Nat) : List Nat:=(List.range i).filter fun u => decide (r u=u)
def membTo (r : Nat→Nat) (i q : Nat) : List Nat:=(List.range i).filter fun v => decide (r v=q)
theorem rootsTo_succ (r : Nat→Nat) (i : Nat) : rootsTo r (i+1)=rootsTo r i++if r i=i then [i] else []:=by
  unfold rootsTo
  rw [List.range_succ,List.filter_append]
  congr 1
  by_cases h : r i=i
  · rw [if_pos h]; simp [h]
  · rw [if_neg h]; simp [h]
theorem membTo_succ (r : Nat→Nat) (i q : Nat) : membTo r (i+1) q=membTo r i q++if r i=q then [i] else []:=by
  unfold membTo
  rw [List.range_succ,List.filter_append]
  congr 1
  by_cases h : r i=q
  · rw [if_pos h]; simp [h]
  · rw [if_neg h]; simp [h]
theorem rootsTo_mem {r : Nat→Nat} {i q : Nat} : q∈rootsTo r i↔q < i∧r q=q:=by
  unfold rootsTo; simp
theorem rootsTo_nodup (r : Nat→Nat) (i : Nat) : (rootsTo r i).Nodup:=(List.nodup_range).sublist List.filter_sublist
theorem membTo_mem {r : Nat→Nat} {i q v : Nat} : v∈membTo r i q↔v < i∧r v=q:=by
  unfold membTo; simp
theorem membTo_length (r : Nat→Nat) (i q : Nat) : (membTo r i q).length≤i:=by
  have:=List.length_filter_le (fun v => decide (r v=q)) (List.range i)
  rw [List.length_range] at this; exact this
theorem rootsTo_length (r : Nat→Nat) (i : Nat) : (rootsTo r i).length≤i:=by
  have:=List.length_filter_le (fun u => decide (r u=u)) (List.range i)
  rw [List.length_range] at this; exact this
def partsTo {α : Type} (r : Nat→Nat) (c : Nat→α) (i : Nat) : List (List α):=(rootsTo r i).map fun q => (membTo r i q).map c
theorem partsTo_new {α : Type} {r : Nat→Nat} (c : Nat→α) {i : Nat} (hle : ∀ u,u < i→r u≤u) (hi : r i=i) : partsTo r c (i+1)=partsTo r c i++[[c i]]:=by
  unfold partsTo
  rw [rootsTo_succ,if_pos hi,List.map_append]
  congr 1
  · refine List.map_congr_left fun q hq => ?_
    have:=(rootsTo_mem.1 hq).1
    rw [membTo_succ,if_neg (by omega),List.append_nil]
  · have : membTo r i i=[]:=List.filter_eq_nil_iff.2 fun v hv => by
      have h1:=List.mem_range.1 hv
      have h2:=hle v h1
      simp; omega
    simp only [List.map_cons,List.map_nil]
    rw [membTo_succ,if_pos hi,this]; rfl
theorem partsTo_more {α : Type} {r : Nat→Nat} (c : Nat→α) {i : Nat} (hlt : r i≠i) {k : Nat} (hk : (rootsTo r i)[k]?=some (r i)) :
    partsTo r c (i+1)=(partsTo r c i).set k (((membTo r i (r i)).map c)++[c i]):=by
  unfold partsTo
  rw [rootsTo_succ,if_neg hlt,List.append_nil]
  refine List.ext_getElem? fun j => ?_
  rw [List.getElem?_set,List.getElem?_map]
  by_cases e : k=j
  · subst e
    rw [if_pos rfl,hk,if_pos (by rw [List.length_map]; exact (List.getElem?_eq_some_iff.1 hk).1)]
    simp only [Option.map_some]
    rw [membTo_succ,if_pos rfl,List.map_append]; rfl
  · rw [if_neg e, List.getElem?_map]
    cases hj : (rootsTo r i)[j]? with
    | none => rfl
    | some q =>
      simp only [Option.map_some]
      have hne : r i≠q:=fun h => by
        subst h
        obtain ⟨h1,h2⟩:=List.getElem?_eq_some_iff.1 hk
        obtain ⟨h3,h4⟩:=List.getElem?_eq_some_iff.1 hj
        exact e ((List.getElem_inj (rootsTo_nodup r i)).1 (h2.trans h4.symm))
      rw [membTo_succ,if_neg hne,List.append_nil]
end Go.Proofs.Ytcecojdeljbjoaa.Sx
namespace Go.Proofs.Ytcecojdeljbjoaa.Sx
open Go
def Vx0 : Vx:=⟨ID0,[],⟨#[]⟩,0⟩
def idAt (l : List Vx) (v : Nat) : ID:=(l.getD v Vx0).id
theorem idAt_lt {l : List Vx} {i : Nat} (h : i < l.length) : idAt l i=l[i].id:=by
  unfold idAt; rw [List.getD_eq_getElem?_getD,List.getElem?_eq_getElem h]; rfl
def prI (l : List Vx) (ev : TV) (r : Nat→Nat) (i : Nat) : St:=prS l ev ((List.range l.length).map r) (rootsTo r i) (partsTo r (fun v => ID.c (idAt l v)) i) i
def prE (l : List Vx) (r : Nat→Nat) : St:=if l.length=0 then ⟨upd e0 4 (.v (.sl (.tight 75) 1 [])),h0⟩ else
  ⟨upd e0 4 (.s 1000000000004 0 (partsTo r (fun v => ID.c (idAt l v)) l.length).length),upd (nestH 34 2 (partsTo r (fun v => ID.c (idAt l v)) l.length)) 1000000000004 (some (.var false (cellsFrom 0 (partsTo r (fun v => ID.c (idAt l v)) l.length))))⟩
theorem labs_get {n : Nat} (r : Nat→Nat) {i : Nat} (hi : i < n) : ((List.range n).map r)[i]?=some (r i):=by
  rw [List.getElem?_map,List.getElem?_range hi]; rfl
theorem parts_length {α : Type} (r : Nat→Nat) (c : Nat→α) (i : Nat) : (partsTo r c i).length=(rootsTo r i).length:=by
  unfold partsTo; rw [List.length_map]
theorem parts_small {α : Type} {r : Nat→Nat} {c : Nat→α} {i : Nat} : ∀ p∈partsTo r c i,p.length≤i:=by
  intro p hp
  obtain ⟨q,_,rfl⟩:=List.mem_map.1 hp
  rw [List.length_map]; exact membTo_length r i q
theorem pr_L (l : List Vx) (ev : TV) (r : Nat→Nat) (hl : FitL l) (hle : ∀ u,u < l.length→r u≤u) (hid : ∀ u,u < l.length→r (r u)=r u) :
    E (cs prF) 1000000000000 q96_l1 (prS0 l ev ((List.range l.length).map r))=some (.exit 0,prE l r):=by
  have hn:=hl.1
  have hll : ((List.range l.length).map r).length=l.length:=by rw [List.length_map,List.length_range]
  have key:=loop_grow (C:=cs prF) (lo:=1000000000000) (b:=q96_b1) (prS0 l ev ((List.range l.length).map r)) (prI l ev r) l.length (r0:=(.exit 0,prE l r)) (r:=(.exit 0,prE l r)) ?_ (by simp) ?_ ?_ ?_ (by simp)
  · rw [ite_self] at key; exact key
  · intro h0
    have hl0 : l=[]:=List.length_eq_zero_iff.1 h0
    subst hl0
    unfold prS0 prE
    simp only [q96_b1,List.range_zero,List.map_nil,Nat.reduceLT,keep_hi,keep_h0,go_sem,seval]
  · intro hpos
    have hr0 : r 0=0:=Nat.le_zero.1 (hle 0 hpos)
    have h1:=pr_first l ev ((List.range l.length).map r) hl hll hpos (by rw [labs_get r hpos,hr0])
    have e1 : rootsTo r 1=[0]:=by rw [rootsTo_succ,if_pos hr0]; rfl
    have e2 : partsTo r (fun v => ID.c (idAt l v)) 1=[[ID.c l[0].id]]:=by
      rw [partsTo_new _ (fun u hu => absurd hu (Nat.not_lt_zero _)) hr0,idAt_lt hpos]; rfl
    unfold prI
    rw [e1,e2]; exact h1
  · intro i hi0 hi
    have hps : (partsTo r (fun v => ID.c (idAt l v)) i).length≤i:=by rw [parts_length]; exact rootsTo_length r i
    have hpl : ∀ p∈partsTo r (fun v => ID.c (idAt l v)) i,p.length < 500000:=fun p hp => by have:=parts_small p hp; omega
    unfold prI
    by_cases hri : r i=i
    · have h1 := pr_new l ev ((List.range l.length).map r) (rootsTo r i) (partsTo r (fun v => ID.c (idAt l v)) i) i hl hll (by omega) hpl hi (by rw [labs_get r hi, hri]) (rootsTo_nodup r i) (fun h => by have := (rootsTo_mem.1 h).1; omega) (parts_length _ _ _).symm
      rw [rootsTo_succ,if_pos hri,partsTo_new _ (fun u hu => hle u (by omega)) hri,idAt_lt hi]
      exact h1
    · have hlt : r i < i := by have := hle i hi; omega
      obtain ⟨k,hk1,hk2⟩:=List.mem_iff_getElem.1 (rootsTo_mem.2 ⟨hlt,hid i hi⟩ : r i∈rootsTo r i)
      have hk : (rootsTo r i)[k]?=some (r i):=by rw [List.getElem?_eq_getElem hk1,hk2]
      have hp : (partsTo r (fun v => ID.c (idAt l v)) i)[k]?=some ((membTo r i (r i)).map fun v => ID.c (idAt l v)):=by
        unfold partsTo; rw [List.getElem?_map,hk]; rfl
      have hpos : 0 < ((membTo r i (r i)).map fun v => ID.c (idAt l v)).length:=by
        rw [List.length_map]
        exact List.length_pos_of_mem (membTo_mem.2 ⟨hlt,hid i hi⟩ : r i∈membTo r i (r i))
      have h1:=pr_more l ev ((List.range l.length).map r) (rootsTo r i) (partsTo r (fun v => ID.c (idAt l v)) i) i (r i) k _ hl hll (by omega) hpl hi (labs_get r hi) hri (rootsTo_nodup r i) hk hp hpos
      rw [rootsTo_succ,if_neg hri,List.append_nil,partsTo_more _ hri hk,idAt_lt hi]
      exact h1
  · intro hpos
    have hps : (partsTo r (fun v => ID.c (idAt l v)) l.length).length≤l.length:=by rw [parts_length]; exact rootsTo_length r _
    have km : ∀ j,keepLo j (nestH 34 2 (partsTo r (fun v => ID.c (idAt l v)) l.length)) 1000000000000=nestH 34 2 (partsTo r (fun v => ID.c (idAt l v)) l.length):=fun j => keep_nest j (by omega)
    have cm : ∀ j,maskCs 1000000000000 j (cellsFrom 0 (partsTo r (fun v => ID.c (idAt l v)) l.length))=cellsFrom 0 (partsTo r (fun v => ID.c (idAt l v)) l.length):=fun j => cells_mask j _ 0 (by omega) fun p hp => by have:=parts_small p hp; omega
    unfold prI prS prE
    rw [if_neg (by omega),hll]
    generalize partsTo r (fun v => ID.c (idAt l v)) l.length=ps at *
    simp only [q96_b1,dec_ge (Nat.le_refl l.length),km,cm,keep_hi,Nat.reduceLT,go_sem,seval]
end Go.Proofs.Ytcecojdeljbjoaa.Sx
namespace Go.Proofs.Ytcecojdeljbjoaa.Sx
open Go Go.RowKit
def prR (l : List Vx) (r : Nat→Nat) : St:=if l.length=0 then ⟨upd e0 2 (.v (.sl (.tight 75) 1 [])),h0⟩ else
  ⟨upd e0 2 (.s 1000000000002 0 (partsTo r (fun v => ID.c (idAt l v)) l.length).length),upd (nestH 34 2 (partsTo r (fun v => ID.c (idAt l v)) l.length)) 1000000000002 (some (.var false (cellsFrom 0 (partsTo r (fun v => ID.c (idAt l v)) l.length))))⟩
theorem labV_le (l : List Vx) : ∀ u,u < l.length→labV l u≤u:=fun u hu => (labV_lab l).self hu
theorem stepQ_symm {l : List Vx} (u w : Nat) (h : stepV l u w) : stepV l w u:=by
  obtain ⟨x,h1,h2⟩:=h
  exact ⟨othD x,h2,by rw [othD_othD]; exact h1⟩
theorem labV_idem (l : List Vx) : ∀ u,u < l.length→labV l (labV l u)=labV l u:=fun u hu => (labV_lab l).idem stepQ_symm hu
theorem pr_all (l : List Vx) (ek : Nat) (er : List (List TV)) (hl : LabOk l) : E (cs prF) 1000000000000 q96 (start [.agg [.sl .shared 5 (rowsBy Vx.c l),.sl .shared ek er]])=some (.ret,prR l (labV l)):=by
  have c1 : call prF 103 [.agg [.sl .shared 5 (rowsBy Vx.c l),.sl .shared ek er]]=some (labT l):=by rw [pr_lab,labG_eq _ hl]
  unfold labT at c1
  have h1:=pr_L l (.sl .shared ek er) (labV l) hl.fit (labV_le l) (labV_idem l)
  have hll : ((List.range l.length).map (labV l)).length=l.length:=by rw [List.length_map,List.length_range]
  have hrl : (rowsBy cNat ((List.range l.length).map (labV l))).length=l.length:=by rw [rowsBy_map,List.length_map,hll]
  unfold prS0 at h1
  rw [hll] at h1
  generalize rowsBy cNat ((List.range l.length).map (labV l))=labs at *
  unfold prE at h1
  unfold prR
  by_cases h0 : l.length=0
  · rw [if_pos h0] at h1 ⊢
    simp only [q96,start,c1,hrl,h1,Nat.reduceLT,keep_h0,keep_hi,go_sem,seval]
  · rw [if_neg h0] at h1 ⊢
    have hps : (partsTo (labV l) (fun v => ID.c (idAt l v)) l.length).length≤l.length:=by rw [parts_length]; exact rootsTo_length _ _
    have hn:=hl.fit.1
    have km : ∀ j,keepLo j (nestH 34 2 (partsTo (labV l) (fun v => ID.c (idAt l v)) l.length)) 1000000000000=nestH 34 2 (partsTo (labV l) (fun v => ID.c (idAt l v)) l.length):=fun j => keep_nest j (by omega)
    have cm : ∀ j,maskCs 1000000000000 j (cellsFrom 0 (partsTo (labV l) (fun v => ID.c (idAt l v)) l.length))=cellsFrom 0 (partsTo (labV l) (fun v => ID.c (idAt l v)) l.length):=fun j => cells_mask j _ 0 (by omega) fun p hp => by have:=parts_small p hp; omega
    generalize partsTo (labV l) (fun v => ID.c (idAt l v)) l.length=ps at *
    simp only [q96,start,c1,hrl,h1,km,cm,keep_hi,keep_h0,Nat.reduceLT,go_sem,seval]
theorem varS_ok {N : Rm} {w0 w : World} {ok0 ok : Nat→Prop} {st : St} {ρ : Rho} {a : Act} (g : Gam N w0 ok0 st ok ρ a w) {id : Nat} {fz : Bool} {cs : List LV} {ts : List TV} {is : List Nat} (hid : st.hp id=some (.var fz cs)) (hc : solidCells st.hp cs=some (ts,is)) {x : Value}
    (hx : LRep w ok ρ st.hp (.s id 0 cs.length) x) : TRep w (okPlus ok ρ st.hp (id :: is)) (.sl .shared 1 (ts.map fun t => [t])) x:=by
  simp only [LRep,hid,SRep] at hx
  obtain ⟨_,b,cap,h2,rfl,h3,h4⟩:=hx
  obtain ⟨b',K',cur,ty,q1,q2,_,q4,q5⟩:=g.obj id _ hid
  rw [h2] at q1
  obtain ⟨rfl,rfl⟩ : b=b'∧cap=K':=by simpa using q1
  have h6:=solidCells_ok g hc q5
  have hlen : cs.length=ts.length:=by
    have:=h6.length
    rw [List.length_take] at this
    have h7 : cur.toList.length=cur.size:=Array.length_toList
    omega
  have hcells : CellsRep w (okPlus ok ρ st.hp (id :: is)) b ts 0:=CellsRep.of fun j u hj => by
    obtain ⟨v,k1,k2,k3⟩:=h6.get j u hj
    rw [List.getElem?_take] at k1
    split at k1
    · exact ⟨v,by rw [cell_of_row w b (0+j) cur ty (0,0) q2]; simpa using k1,k2 rfl,k3.to (okPlus_mono (by simp +contextual))⟩
    · cases k1
  simp only [TRep]
  refine ⟨_,_,cap,rfl,by rw [List.length_map]; exact hlen,h3,h4,by simp,.inr ⟨b,0,rfl,.inr ⟨id,by simp,_,cap,hid,rfl,h2⟩,?_⟩⟩
  refine RowsRep.of fun i r hr => ?_
  rw [List.getElem?_map] at hr
  cases ht : ts[i]? with
  | none => rw [ht] at hr; cases hr
  | some t =>
    rw [ht] at hr
    obtain rfl:=Option.some.inj hr
    obtain ⟨v,k1,k2,k3⟩:=hcells.get i t ht
    refine ⟨rfl,?_⟩
    simp only [CellsRep]
    exact ⟨⟨v,by rw [Nat.mul_one]; exact k1,k2,k3⟩,trivial⟩
theorem rrep_plus {N : Rm} {w0 w : World} {ok0 ok : Nat→Prop} {st : St} {ρ : Rho} {a : Act} (g : Gam N w0 ok0 st ok ρ a w) {is : List Nat} {sz : Nat} {rows : List (List TV)} {x : Value} (h : TRep w (okPlus ok ρ st.hp is) (.sl .shared sz rows) x) :
    RRep w0.heap.size w ok0 (.sl .shared sz rows) x:=by
  refine ⟨okPlus ok ρ st.hp is,[],fun b hb => ?_,⟨fun b K h => (by cases h),(by simp)⟩,⟨rfl,h⟩⟩
  rcases hb with hb | ⟨i,_,o,K,h2,h3,h4⟩
  · exact ⟨g.old b hb,(g.free b hb).1⟩
  · have := g.fresh i o b K h2 h3 h4
    exact ⟨fun hlt => by omega,this.2⟩
theorem leaves_rr {P : Program} {fn : Func} {t : TV} {M N' : Rm} {w w' : World} {ok ok1 : Nat→Prop} {st : St} {ρ : Rho} {a' : Act} (hres : fn.results.toList.all (resOk P)=true) (hds0 : M.ds=[]) (e' : Ext M N')
    {l : LV} (hx : resLs st (fn.results.toList.map (cRes P))=some [l]) (hr : ∀ (N3 : Rm) (a3 : Act) (w3 : World) (x : Value),Gam N3 w ok st ok1 ρ a3 w3→LRep w3 ok1 ρ st.hp l x→RRep w.heap.size w3 ok t x) (g' : Gam N' w ok st ok1 ρ a' w') :
    LeavesInM (FR none) 0 P fn a'.tmps (fun e w' => ∃ v,e=.returned v∧Below w.heap.size w w'∧RRep w.heap.size w' ok t v) a'.defers .returning w':=by
  obtain ⟨ms,d1,d2⟩:=e'.ds
  have hds : a'.defers=ms:=by rw [g'.defers,d1,hds0]; simp
  rw [hds]
  refine leaves_marks ms g' d2 e'.gh e'.res fun N3 w3 g3 hgh3 hres3 => ?_
  have g4 : Gam (Rm.plain a'.tmps.size) w ok st ok1 ρ { a' with defers:=[] } w3:=g3.frame rfl rfl (fun _ h => by cases h) (fun _ => by simp only [Rm.plain,LRep]) g3.env (fun _ _ h => by cases h)
  obtain ⟨us,k1,k2⟩:=resLs_ok (P:=P) g4 hres hx
  simp only [LReps] at k2
  obtain ⟨x,r,rfl,_,k3,rfl⟩:=k2
  refine ⟨x,?_,_,rfl,g4.below,hr _ _ _ x g4 k3⟩
  have e : results fn a'.tmps=(do let vs ← fn.results.mapM (resSem { a' with defers:=[] }); pure (if h : vs.size=1 then vs[0] else .tuple vs)):=rfl
  rw [e,Array.mapM_eq_mapM_toList]
  simp [k1]
def sl2 (rows : List (List TV)) : List TV:=[.sl .shared 2 rows]
theorem cells_solid {h : Hp} {e : TypeId} : ∀ (ps : List (List (List TV))) (k : Nat),(∀ i rows,ps[i]?=some rows→h ((k+i) * 1000000+rows.length)=some (.arr false e 2 rows)) →
    ∃ is,solidCells h (cellsFrom k ps)=some (ps.map fun rows => .sl .shared 2 rows,is)
  | [],k,_ => ⟨[],rfl⟩
  | q :: r, k, hk => by
    obtain ⟨is,ih⟩:=cells_solid r (k+1) fun i rows hi => by
      have:=hk (i+1) rows (by simpa using hi)
      rwa [show k+(i+1)=k+1+i by omega] at this
    have h0:=hk 0 q rfl
    rw [Nat.add_zero] at h0
    refine ⟨[k * 1000000+q.length]++is,?_⟩
    show consS (solidS 0 q.length (k * 1000000+q.length) (h (k * 1000000+q.length))) (solidCells h (cellsFrom (k+1) r))=_
    rw [h0,ih]
    simp only [solidS,consS,List.drop_zero,List.take_length,List.map_cons]
noncomputable def partsL (l : List Vx) : List (List (List TV)):=partsTo (labV l) (fun v => ID.c (idAt l v)) l.length
noncomputable def partsT (l : List Vx) : TV:=.sl .shared 1 ((partsL l).map sl2)
theorem prR_res (l : List Vx) (hn : l.length≤100000) {N : Rm} {w0 w : World} {ok0 ok : Nat→Prop} {ρ : Rho} {a : Act} (g : Gam N w0 ok0 (prR l (labV l)) ok ρ a w) {x : Value} (hx : LRep w ok ρ (prR l (labV l)).hp ((prR l (labV l)).env 2) x) :
    RRep w0.heap.size w ok0 (partsT l) x:=by
  unfold prR at g hx
  by_cases h0 : l.length=0
  · simp only [if_pos h0] at g hx
    have hx : LRep w ok ρ Sx.h0 (.v (.sl (.tight 75) 1 [])) x:=hx
    have e : partsT l=.sl .shared 1 []:=by
      unfold partsT partsL
      rw [h0]; rfl
    rw [e]
    refine rrep_plus (is:=[]) g ?_
    simp only [LRep,TRep] at hx ⊢
    obtain ⟨ad,len,cap,h1,h2,h3,h4,_,_⟩:=hx
    exact ⟨ad,len,cap,h1,h2,h3,h4,by simp⟩
  · simp only [if_neg h0] at g hx
    have hps : (partsL l).length≤l.length:=by unfold partsL; rw [parts_length]; exact rootsTo_length _ _
    have hsm : ∀ (i : Nat) (rows : List (List TV)),(partsL l)[i]?=some rows→0 < rows.length∧rows.length < 1000000:=fun i rows hi => by
      refine ⟨?_,by have:=parts_small rows (List.mem_of_getElem? hi); omega⟩
      unfold partsL partsTo at hi
      rw [List.getElem?_map] at hi
      cases hq : (rootsTo (labV l) l.length)[i]? with
      | none => rw [hq] at hi; cases hi
      | some q =>
        rw [hq] at hi
        obtain rfl:=Option.some.inj hi
        rw [List.length_map]
        have hm:=rootsTo_mem.1 (List.mem_of_getElem? hq)
        exact List.length_pos_of_mem (membTo_mem.2 hm)
    have hx : LRep w ok ρ _ (.s 1000000000002 0 (partsL l).length) x:=hx
    have hcl : (cellsFrom 0 (partsL l)).length=(partsL l).length:=cells_length _ _
    rw [← hcl] at hx
    obtain ⟨is,hs⟩:=cells_solid (h:=upd (nestH 34 2 (partsL l)) 1000000000002 (some (.var false (cellsFrom 0 (partsL l))))) (e:=34) (partsL l) 0 (fun i rows hi => by
      have hil:=(List.getElem?_eq_some_iff.1 hi).1
      obtain ⟨p1,p2⟩:=hsm i rows hi
      rw [Nat.zero_add,upd_ne _ _ (by omega)]
      exact nest_at hi p1 p2)
    have e1 : upd (nestH 34 2 (partsL l)) 1000000000002 (some (Ob.var false (cellsFrom 0 (partsL l)))) 1000000000002=some (Ob.var false (cellsFrom 0 (partsL l))):=by unfold upd; rw [if_pos rfl]
    have:=varS_ok g (id:=1000000000002) (fz:=false) (cs:=cellsFrom 0 (partsL l)) e1 hs hx
    rw [List.map_map] at this
    exact rrep_plus g this
theorem parts_sound (l : List Vx) (ek : Nat) (er : List (List TV)) (hl : LabOk l) : Sound Try.prog 96 [.agg [.sl .shared 5 (rowsBy Vx.c l),.sl .shared ek er]] (partsT l):=by
  have hb : Try.f96.body=some prC:=pr_body
  have hmix : Try.prog.follows .mixedOrders=true:=Checked.mixed Try.checked
  refine ⟨⟨_,Try.func96,by decide,rfl⟩,fun w ok vs hbd hv => ?_⟩
  refine calls_rf (rd:=none) (n:=0) (callsIn_of_wp_marks Try.func96 hb trivial ?_)
  have g0:=start_ok hbd hv (Try.f96.ntmps - vs.toArray.size)
  obtain ⟨M,hM⟩ : ∃ M : Rm,M=⟨(vs.toArray++Array.replicate (Try.f96.ntmps - vs.toArray.size) undef).size,fun _ => false,fun s => (vs.toArray++Array.replicate (Try.f96.ntmps - vs.toArray.size) undef).getD s undef,fun _ => (.u,undef),fun _ => none,[]⟩:=⟨_,rfl⟩
  have g : Gam M w ok (start [.agg [.sl .shared 5 (rowsBy Vx.c l),.sl .shared ek er]]) ok (fun _ => none) { tmps:=vs.toArray++Array.replicate (Try.f96.ntmps - vs.toArray.size) undef,defers:=[] } w:=by
    rw [hM]
    exact g0.frame rfl rfl (fun _ _ => rfl) (fun _ => by simp only [LRep]) g0.env (fun _ _ h => by cases h)
  have hN : prN.le M:=by
    have h0 : Try.f96.ntmps≤(vs.toArray++Array.replicate (Try.f96.ntmps - vs.toArray.size) undef).size:=by simp; omega
    rw [hM]
    refine ⟨h0,fun d hd => ?_,fun d hd => ?_⟩
    · simp only [Sl.may, Bool.and_eq_true, decide_eq_true_eq, Bool.not_eq_true'] at hd
      exact ⟨Nat.lt_of_lt_of_le hd.1 h0,rfl⟩
    · cases hd
  have hst : Stable M 1000000000000 prA prB:=by rw [hM]; exact ⟨fun _ _ _ => rfl,fun _ _ _ => rfl⟩
  have hgood : GoodAt Try.prog (cs prF) M 1000000000000:=⟨pr_good,fun _ _ _ _ _ _ _ => by rw [hM]; rfl,fun R hR => by cases hR⟩
  have hrg : RgOk prN none M 1000000000000:=fun _ => ⟨rfl,fun _ => by rw [hM]; rfl⟩
  have x1:=pr_all l ek er hl
  rw [← pr_code] at x1
  obtain ⟨m1,x1⟩:=(E_some _ _).1 x1
  refine code_ok' hmix m1 hgood hN hst hrg prC x1 g fun N1 ok1 ρ1 a1 w1 e1 g1 => ?_
  exact leaves_rr (P:=Try.prog) (fn:=Try.f96) (t:=partsT l) (M:=M) pr_resok (by rw [hM]) e1 (l:=(prR l (labV l)).env 2) (by rw [pr_res]; rfl) (fun N3 a3 w3 x g3 hx3 => prR_res l hl.fit.1 g3 hx3) g1
open Classical in
noncomputable def partsG (args : List TV) : Option TV:=if h : ∃ l ek er,args=[.agg [.sl .shared 5 (rowsBy Vx.c l),.sl .shared ek er]]∧LabOk l then some (partsT h.choose) else none
theorem parts_ok : EntOK Try.prog 96 (.ext partsG):=by
  intro args r h
  unfold partsG at h
  split at h
  · rename_i hx
    obtain ⟨ek,er,e1,e2⟩:=hx.choose_spec
    obtain rfl:=Option.some.inj h
    generalize hx.choose=m at *
    subst e1
    exact parts_sound _ ek er e2
  · cases h
theorem partsG_eq {l : List Vx} (ek : Nat) (er : List (List TV)) (hl : LabOk l) : partsG [.agg [.sl .shared 5 (rowsBy Vx.c l),.sl .shared ek er]]=some (partsT l):=by
  have hx : ∃ l' ek' er',[TV.agg [.sl .shared 5 (rowsBy Vx.c l),.sl .shared ek er]]=[TV.agg [.sl .shared 5 (rowsBy Vx.c l'),.sl .shared ek' er']]∧LabOk l':=⟨l,ek,er,rfl,hl⟩
  unfold partsG
  rw [dif_pos hx]
  have key : ∀ m,(∃ ek' er',[TV.agg [.sl .shared 5 (rowsBy Vx.c l),.sl .shared ek er]]=[TV.agg [.sl .shared 5 (rowsBy Vx.c m),.sl .shared ek' er']]∧LabOk m)→m=l:=by
    rintro m ⟨ek',er',e1,_⟩
    simp only [List.cons.injEq,TV.agg.injEq,TV.sl.injEq,true_and,and_true] at e1
    exact (rowsBy_inj Vx.c_inj e1.1).symm
  rw [key _ hx.choose_spec]
end Go.Proofs.Ytcecojdeljbjoaa.Sx
namespace Go.Proofs.Ytcecojdeljbjoaa
open Go Go.Shelf
namespace Sx
noncomputable def exts : List (Nat × FEnt):=[(49,.ext mayG),(103,.ext labG),(96,.ext partsG)]
theorem exts_ok : ∀ x∈exts,EntOK Try.prog x.1 x.2 :=
  List.forall_mem_cons.2 ⟨may_ok,List.forall_mem_cons.2 ⟨labels_ok,List.forall_mem_cons.2 ⟨parts_ok,fun _ h => by cases h⟩⟩⟩
end Sx
end Go.Proofs.Ytcecojdeljbjoaa
