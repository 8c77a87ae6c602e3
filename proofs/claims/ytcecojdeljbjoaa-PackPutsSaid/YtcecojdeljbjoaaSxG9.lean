/- Darts round vertices and round faces,in plain Lean: how many faces there are,and what an edge more or less does to them. Faces,parts and the genus of diagrams,in plain Lean: what an edge more or less does to them; bounds. What the functions of faces come to. Faces gone round: what the iterator's rounds come to. All faces: what the program's rounds,and the reference's,come to. Lesser places spread along edges,in plain Lean: n rounds of that come to the least place of each part. Parts of a diagram that is well formed,in plain Lean: which vertices hang together; the reference's rounds; parts as lists. Chapter 6: its functions,the program's and the reference's,as what they come to in a diagram that is well formed. Faces,parts and the genus of a diagram that is well formed. Diagrams as bytes,in plain Lean: laid down,taken,and back. Numbers and texts as bytes: what the functions that lay them down come to. Diagrams laid down as bytes: what the functions come to. Diagrams laid down as bytes: pack.Put and its reference. Diagrams laid down as bytes: the reference's Put. Chapter 8: the head of its statements; numbers and texts. -/
import Derived.Test.YtcecojdeljbjoaaSxG6
import Derived.Test.YtcecojdeljbjoaaSxG7
import Derived.Test.YtcecojdeljbjoaaSxG8
set_option maxRecDepth 100000
set_option linter.unusedSimpArgs false
set_option linter.unusedVariables false
namespace Go.Proofs.Ytcecojdeljbjoaa.Sx
def sigD (l : List Vx) (x : Dart) : Dart:=match atBy l x with | some v => nextD v.ring x | none => Dart0
def phiD (l : List Vx) (x : Dart) : Dart:=sigD l (othD x)
theorem othD_dartsE {es : List Ed} {x : Dart} : othD x∈dartsE es↔x∈dartsE es:=by
  have key : ∀ x : Dart,x∈dartsE es→othD x∈dartsE es:=fun x hx => by
    obtain ⟨e,he,h⟩:=dartsE_mem.1 hx
    refine dartsE_mem.2 ⟨e,he,?_⟩
    rcases h with rfl | rfl
    · right; rfl
    · left; rfl
  exact ⟨fun h => by have:=key _ h; rwa [othD_othD] at this,key x⟩
theorem othD_ne_of {es : List Ed} {x : Dart} (h : x∈dartsE es) : othD x≠x:=by
  obtain ⟨e,_,h⟩:=dartsE_mem.1 h
  rcases h with rfl | rfl<;>(unfold othD; simp)
structure Pr (l : List Vx) : Prop where
  nd : (allR l).Nodup
  oth : ∀ x∈allR l,othD x∈allR l
  ne : ∀ x∈allR l,othD x≠x
theorem WF.pr {l : List Vx} {es : List Ed} (h : WF l es) : Pr l :=
  ⟨h.nd,fun x hx => (h.mem _).2 (othD_dartsE.2 ((h.mem x).1 hx)),fun x hx => othD_ne_of ((h.mem x).1 hx)⟩
/-! ### the next one in a ring -/
theorem nextD_mem {r : List Dart} {x : Dart} (h : x∈r) : nextD r x∈r:=by
  have hp:=List.length_pos_of_mem h
  unfold nextD; rw [byD_ga h]; exact ga_mem hp _
theorem nextD_inj {r : List Dart} (hn : r.Nodup) {x y : Dart} (hx : x∈r) (hy : y∈r) (e : nextD r x=nextD r y) : x=y:=by
  have hp:=List.length_pos_of_mem hx
  unfold nextD at e
  rw [byD_ga hx,byD_ga hy] at e
  have e1:=ga_inj hn hp e
  have h1:=(idxOf_at hx).1
  have h2:=(idxOf_at hy).1
  have e2 : r.idxOf x=r.idxOf y:=by
    have a : (r.idxOf x+1) % r.length=if r.idxOf x+1=r.length then 0 else r.idxOf x+1:=by
      split
      · rename_i h; rw [h,Nat.mod_self]
      · exact Nat.mod_eq_of_lt (by omega)
    have b : (r.idxOf y+1) % r.length=if r.idxOf y+1=r.length then 0 else r.idxOf y+1:=by
      split
      · rename_i h; rw [h,Nat.mod_self]
      · exact Nat.mod_eq_of_lt (by omega)
    rw [a,b] at e1
    split at e1<;>split at e1<;>omega
  rw [← ga_idx hx,← ga_idx hy,e2]
theorem nextD_snoc {w : List Dart} {a z : Dart} (hn : (w++[a]).Nodup) (hz : z∈w) : nextD w z=if nextD (w++[a]) z=a then nextD (w++[a]) a else nextD (w++[a]) z:=by
  have hnw : w.Nodup:=(List.nodup_append.1 hn).1
  have haw : a∉w:=fun h => (List.nodup_append.1 hn).2.2 a h a (by simp) rfl
  obtain ⟨h1,h2⟩:=idxOf_at hz
  have hl : (w++[a]).length=w.length+1:=by simp
  have hzi : ga w (w.idxOf z)=z:=ga_idx hz
  have hg : ∀ i (h : i < w.length),ga (w++[a]) i=w[i]:=fun i h => by rw [ga_lt (by omega),List.getElem_append_left h]
  have hge : ga (w++[a]) w.length=a:=by rw [ga_lt (by omega),List.getElem_append_right (Nat.le_refl _)]; simp
  have hpos : 0 < w.length:=by omega
  have e1 : nextD w z=ga w (w.idxOf z+1):=by unfold nextD; rw [byD_ga hz]
  have e2 : nextD (w++[a]) z=ga (w++[a]) (w.idxOf z+1):=by
    have:=nextD_ga hn (by omega) (w.idxOf z)
    rw [hg _ h1,h2] at this; exact this
  have e3 : nextD (w++[a]) a=w[0]:=by
    have:=nextD_ga hn (by omega) w.length
    rw [hge] at this
    rw [this,← ga_mod,hl,Nat.mod_self,hg 0 hpos]
  rw [e1,e2,e3]
  by_cases hlast : w.idxOf z+1=w.length
  · rw [hlast,hge,if_pos rfl,← ga_mod,Nat.mod_self,ga_lt hpos]
  · have hlt : w.idxOf z + 1 < w.length := by omega
    rw [hg _ hlt,if_neg,ga_lt hlt]
    intro e; exact haw (e ▸ List.getElem_mem hlt)
theorem nextD_erase {r : List Dart} {a z : Dart} (hn : r.Nodup) (ha : a∈r) (hz : z∈r) (hza : z≠a) : nextD (r.filter (fun y => decide (¬ y=a))) z=if nextD r z=a then nextD r a else nextD r z:=by
  obtain ⟨w,hw⟩:=ends ha
  have hnw:=hw.nodup hn
  have haw : a∉w:=fun h => (List.nodup_append.1 hnw).2.2 a h a (by simp) rfl
  have hf:=hw.filter (fun y => decide (¬ y=a))
  have e : (w++[a]).filter (fun y => decide (¬ y=a))=w:=by
    rw [List.filter_append,List.filter_eq_self.2 (fun y hy => by simp; rintro rfl; exact haw hy)]; simp
  rw [e] at hf
  have hzw : z∈w:=by
    have:=(hw.mem z).1 hz
    simp only [List.mem_append,List.mem_singleton] at this
    exact this.resolve_right hza
  have hnf : (r.filter (fun y => decide (¬ y=a))).Nodup:=hn.filter _
  rw [nextD,← byD_rot hnf hf z 1,show byD w z 1=nextD w z from rfl,nextD_snoc hnw hzw]
  unfold nextD
  rw [byD_rot hn hw z 1,byD_rot hn hw a 1]
theorem nextD_rot {r s : List Dart} (hn : r.Nodup) (h : Rot r s) (z : Dart) : nextD s z=nextD r z:=byD_rot hn h z 1
/-! ### the next one round a vertex -/
section
variable {l : List Vx}
theorem sigD_at (hn : (allR l).Nodup) {v : Vx} (hv : v∈l) {x : Dart} (hx : x∈v.ring) : sigD l x=nextD v.ring x:=by
  unfold sigD; rw [atBy_mem hn hv hx]
theorem mem_allR {v : Vx} (hv : v∈l) {x : Dart} (hx : x∈v.ring) : x∈allR l:=(allR_mem l x).2 ⟨v,hv,hx⟩
theorem sigD_mem (hn : (allR l).Nodup) {v : Vx} (hv : v∈l) {x : Dart} (hx : x∈v.ring) : sigD l x∈v.ring:=by
  rw [sigD_at hn hv hx]; exact nextD_mem hx
theorem sigD_oo (hn : (allR l).Nodup) : OneOne (sigD l) (allR l):=by
  refine ⟨fun x hx => ?_,fun x hx y hy e => ?_⟩
  · obtain ⟨v, hv, hxv⟩ := (allR_mem l x).1 hx
    exact mem_allR hv (sigD_mem hn hv hxv)
  · obtain ⟨v, hv, hxv⟩ := (allR_mem l x).1 hx
    obtain ⟨w,hw,hyw⟩:=(allR_mem l y).1 hy
    have h1:=sigD_mem hn hv hxv
    have h2:=sigD_mem hn hw hyw
    rw [e] at h1
    have hvw:=at_one hn hv hw h1 h2
    subst hvw
    rw [sigD_at hn hv hxv,sigD_at hn hv hyw] at e
    exact nextD_inj (ring_nodup hn hv) hxv hyw e
theorem phiD_oo (h : Pr l) : OneOne (phiD l) (allR l) :=
  ⟨fun x hx => (sigD_oo h.nd).mem _ (h.oth x hx),fun x hx y hy e => othD_inj ((sigD_oo h.nd).inj _ (h.oth x hx) _ (h.oth y hy) e)⟩
structure Cut (l m : List Vx) (a b : Dart) : Prop where
  len : l.length=m.length
  rot : ∀ i (h : i < l.length) (h' : i < m.length),Rot ((l[i].ring.filter (fun y => decide (¬ y=a))).filter (fun y => decide (¬ y=b))) m[i].ring
theorem Cut.mem {m : List Vx} {a b : Dart} (c : Cut l m a b) (x : Dart) : x∈allR m↔x∈allR l∧x≠a∧x≠b:=by
  rw [allR_mem,allR_mem]
  constructor
  · rintro ⟨v, hv, hx⟩
    obtain ⟨i,hi,rfl⟩:=List.mem_iff_getElem.1 hv
    have hi' : i < l.length:=by rw [c.len]; exact hi
    have:=((c.rot i hi' hi).mem x).2 hx
    rw [List.mem_filter,List.mem_filter] at this
    simp only [decide_eq_true_eq] at this
    exact ⟨⟨_,List.getElem_mem hi',this.1.1⟩,this.1.2,this.2⟩
  · rintro ⟨⟨v, hv, hx⟩, h1, h2⟩
    obtain ⟨i,hi,rfl⟩:=List.mem_iff_getElem.1 hv
    have hi' : i < m.length:=by rw [← c.len]; exact hi
    refine ⟨_,List.getElem_mem hi',((c.rot i hi hi').mem x).1 ?_⟩
    rw [List.mem_filter,List.mem_filter]
    simp only [decide_eq_true_eq]
    exact ⟨⟨hx,h1⟩,h2⟩
theorem Cut.nd {m : List Vx} {a b : Dart} (c : Cut l m a b) (hn : (allR l).Nodup) : (allR m).Nodup:=by
  have key : ∀ (l m : List Vx),Cut l m a b→∀ y,(allR m).count y≤(allR l).count y:=by
    intro l
    induction l with
    | nil =>
      intro m c y
      have : m=[]:=List.eq_nil_of_length_eq_zero (by rw [← c.len]; rfl)
      subst this; exact Nat.le_refl _
    | cons v l ih =>
      intro m c y
      cases m with
      | nil => have:=c.len; simp at this
      | cons u m =>
        have h1:=ih m ⟨by have:=c.len; simpa using this,fun i h h' => by
          have:=c.rot (i+1) (by simp; exact h) (by simp; exact h')
          simpa using this⟩ y
        have h2:=(c.rot 0 (by simp) (by simp)).count y
        simp only [List.getElem_cons_zero] at h2
        rw [allR_cons,allR_cons,List.count_append,List.count_append,← h2]
        have h3 : ((v.ring.filter (fun y => decide (¬ y=a))).filter (fun y => decide (¬ y=b))).count y≤v.ring.count y :=
          ((List.filter_sublist).trans (List.filter_sublist)).count_le y
        omega
  rw [List.nodup_iff_count]
  intro y
  exact Nat.le_trans (key l m c y) (List.nodup_iff_count.1 hn y)
theorem Cut.pr {m : List Vx} {a : Dart} (h : Pr l) (c : Cut l m a (othD a)) : Pr m:=by
  refine ⟨c.nd h.nd,fun x hx => ?_,fun x hx => h.ne x ((c.mem x).1 hx).1⟩
  obtain ⟨h1,h2,h3⟩:=(c.mem x).1 hx
  refine (c.mem _).2 ⟨h.oth x h1,fun e => h3 ?_,fun e => h2 (othD_inj e)⟩
  rw [← e,othD_othD]
theorem filter_skip {r : List Dart} {a z : Dart} (hn : r.Nodup) (hz : z∈r) (hza : z≠a) : nextD (r.filter (fun y => decide (¬ y=a))) z=if nextD r z=a then nextD r a else nextD r z:=by
  by_cases ha : a∈r
  · exact nextD_erase hn ha hz hza
  · rw [List.filter_eq_self.2 (fun y hy => by simp; rintro rfl; exact ha hy), if_neg]
    intro e; exact ha (e ▸ nextD_mem hz)
theorem Cut.sig {m : List Vx} {a b : Dart} (c : Cut l m a b) (hn : (allR l).Nodup) (hab : a≠b) {z : Dart} (hz : z∈allR m) :
    sigD m z=if sigD l z=a then (if sigD l a=b then sigD l b else sigD l a) else if sigD l z=b then (if sigD l b=a then sigD l a else sigD l b) else sigD l z:=by
  obtain ⟨hzl,hza,hzb⟩:=(c.mem z).1 hz
  obtain ⟨u,hu,hzu⟩:=(allR_mem m z).1 hz
  obtain ⟨i,hi,rfl⟩:=List.mem_iff_getElem.1 hu
  have hi' : i < l.length:=by rw [c.len]; exact hi
  have hr:=c.rot i hi' hi
  have hv:=List.getElem_mem hi'
  generalize l[i]=v at hr hv
  have hnr:=ring_nodup hn hv
  have hzf:=(hr.mem z).2 hzu
  have hn2 : (v.ring.filter (fun y => decide (¬ y=a))).Nodup:=hnr.filter _
  have hz1 : z∈v.ring.filter (fun y => decide (¬ y=a)):=(List.mem_filter.1 hzf).1
  have hzv : z∈v.ring:=(List.mem_filter.1 hz1).1
  rw [sigD_at (c.nd hn) hu hzu,nextD_rot (hn2.filter _) hr,filter_skip hn2 hz1 hzb,filter_skip hnr hzv hza,sigD_at hn hv hzv]
  have inj : ∀ x∈v.ring,nextD v.ring x=nextD v.ring z→x=z:=fun x hx e => nextD_inj hnr hx hzv e
  by_cases h1 : nextD v.ring z=a
  · have hav : a ∈ v.ring := h1 ▸ nextD_mem hzv
    rw [if_pos h1,if_pos h1,sigD_at hn hv hav]
    by_cases h2 : nextD v.ring a=b
    · have hbv : b ∈ v.ring := h2 ▸ nextD_mem hav
      have hb1 : b∈v.ring.filter (fun y => decide (¬ y=a)):=List.mem_filter.2 ⟨hbv,by simpa using fun e => hab e.symm⟩
      rw [if_pos h2,if_pos h2,filter_skip hnr hbv (fun e => hab e.symm),sigD_at hn hv hbv,if_neg]
      intro e; exact hzb (inj b hbv (by rw [e,h1])).symm
    · rw [if_neg h2,if_neg h2]
  · rw [if_neg h1, if_neg h1]
    by_cases h2 : nextD v.ring z=b
    · have hbv : b ∈ v.ring := h2 ▸ nextD_mem hzv
      rw [if_pos h2,if_pos h2,filter_skip hnr hbv (fun e => hab e.symm),sigD_at hn hv hbv]
      by_cases h3 : nextD v.ring b=a
      · have hav : a ∈ v.ring := h3 ▸ nextD_mem hbv
        rw [if_pos h3,if_pos h3,sigD_at hn hv hav]
      · rw [if_neg h3,if_neg h3]
    · rw [if_neg h2,if_neg h2]
theorem Cut.phi {m : List Vx} {a : Dart} (h : Pr l) (c : Cut l m a (othD a)) (ha : a∈allR l) {y : Dart} (hy : y∈allR m) : phiD m y=cutF (phiD l) a (othD a) y:=by
  have hab : a≠othD a:=(h.ne a ha).symm
  have e1 : phiD l y=sigD l (othD y):=rfl
  have e2 : phiD l a=sigD l (othD a):=rfl
  have e3 : phiD l (othD a)=sigD l a:=by show sigD l (othD (othD a))=_; rw [othD_othD]
  unfold cutF
  rw [e1,e2,e3]
  exact c.sig h.nd hab ((c.pr h).oth y hy)
/-! ### vertices alone -/
def aloneN (l : List Vx) : Nat:=l.countP fun v => v.ring.isEmpty
def emptyN (r : List Dart) : Nat:=if r=[] then 1 else 0
theorem alone_cons (v : Vx) (l : List Vx) : aloneN (v :: l)=aloneN l+emptyN v.ring:=by
  unfold aloneN emptyN
  rw [List.countP_cons]
  cases v.ring<;>simp
theorem filt2 {r : List Dart} (hn : r.Nodup) {a b : Dart} (hab : a≠b) : emptyN ((r.filter (fun y => decide (¬ y=a))).filter (fun y => decide (¬ y=b))) =
    emptyN r+(if r=[a] then 1 else 0)+(if r=[b] then 1 else 0)+(if r=[a,b]∨r=[b,a] then 1 else 0):=by
  have key : ∀ x∈r,x≠a→x≠b→((r.filter (fun y => decide (¬ y=a))).filter (fun y => decide (¬ y=b)))≠[]:=fun x hx h1 h2 e => by
    have : x∈(r.filter (fun y => decide (¬ y=a))).filter (fun y => decide (¬ y=b)):=by
      rw [List.mem_filter,List.mem_filter]; exact ⟨⟨hx,by simpa using h1⟩,by simpa using h2⟩
    rw [e] at this; cases this
  unfold emptyN
  match r,hn,key with
  | [],_,_ => simp
  | [x], _, key =>
    by_cases h1 : x=a
    · subst h1; simp [hab]
    · by_cases h2 : x = b
      · subst h2; simp [h1]
      · rw [if_neg (key x (by simp) h1 h2)]; simp [h1,h2]
  | [x, y], hn, key =>
    have hxy : x≠y:=by simp at hn; exact hn
    by_cases h1 : x=a
    · subst h1
      by_cases h2 : y=b
      · subst h2; simp [hab,Ne.symm hab]
      · rw [if_neg (key y (by simp) (Ne.symm hxy) h2)]
        simp [h2,hab]
    · by_cases h2 : x = b
      · subst h2
        by_cases h3 : y=a
        · subst h3; simp [h1]
        · rw [if_neg (key y (by simp) h3 (Ne.symm hxy))]; simp [h1,h3]
      · rw [if_neg (key x (by simp) h1 h2)]; simp [h1,h2]
  | x :: y :: z :: r, hn, key =>
    have h : ∃ w∈x :: y :: z :: r,w≠a∧w≠b:=by
      simp only [List.nodup_cons,List.mem_cons,not_or] at hn
      by_cases h1 : x=a∨x=b
      · by_cases h2 : y = a ∨ y = b
        · refine ⟨z, by simp, ?_⟩
          obtain ⟨⟨n1,n2,_⟩,⟨n3,_⟩,_⟩:=hn
          rcases h1 with rfl | rfl<;>rcases h2 with rfl | rfl
          · exact absurd rfl n1
          · exact ⟨Ne.symm n2,Ne.symm n3⟩
          · exact ⟨Ne.symm n3,Ne.symm n2⟩
          · exact absurd rfl n1
        · exact ⟨y,by simp,fun e => h2 (.inl e),fun e => h2 (.inr e)⟩
      · exact ⟨x,by simp,fun e => h1 (.inl e),fun e => h1 (.inr e)⟩
    obtain ⟨w,hw,h1,h2⟩:=h
    rw [if_neg (key w hw h1 h2)]; simp
theorem alone_sum {a b : Dart} (hab : a≠b) : ∀ {l m : List Vx},Cut l m a b→(allR l).Nodup →
    aloneN m=aloneN l+l.countP (fun v => decide (v.ring=[a]))+l.countP (fun v => decide (v.ring=[b]))+l.countP (fun v => decide (v.ring=[a,b]∨v.ring=[b,a]))
  | [], m, c, _ => by
    have : m=[]:=List.eq_nil_of_length_eq_zero (by rw [← c.len]; rfl)
    subst this; rfl
  | v :: l,[],c,_ => by have:=c.len; simp at this
  | v :: l, u :: m, c, hn => by
    have hnl : (allR l).Nodup:=by rw [allR_cons,List.nodup_append] at hn; exact hn.2.1
    have ih:=alone_sum hab (l:=l) (m:=m) ⟨by have:=c.len; simpa using this,fun i h h' => by
          have:=c.rot (i+1) (by simp; exact h) (by simp; exact h')
          simpa using this⟩ hnl
    have h0:=(c.rot 0 (by simp) (by simp)).len
    simp only [List.getElem_cons_zero] at h0
    have e0 : emptyN u.ring=emptyN ((v.ring.filter (fun y => decide (¬ y=a))).filter (fun y => decide (¬ y=b))):=by
      have k : ∀ {r s : List Dart},r.length=s.length→emptyN s=emptyN r:=fun {r s} h => by
        unfold emptyN
        cases r<;>cases s<;>simp at h<;>simp
      exact k h0
    rw [alone_cons,alone_cons,ih,e0,filt2 (ring_nodup hn (by simp)) hab]
    simp only [List.countP_cons,decide_eq_true_eq]
    omega
theorem countP_ring {p : Vx→Bool} {a : Dart} (hn : (allR l).Nodup) (hp : ∀ v∈l,p v=true→a∈v.ring) : l.countP p=if ∃ v∈l,p v=true then 1 else 0:=by
  have key : ∀ l : List Vx,(∀ v∈l,p v=true→a∈v.ring)→l.countP p≤(allR l).count a:=by
    intro l
    induction l with
    | nil => intro _; exact Nat.le_refl _
    | cons v l ih =>
      intro hp
      rw [List.countP_cons,allR_cons,List.count_append]
      have:=ih fun v hv => hp v (by simp [hv])
      split
      · rename_i h
        have:=List.count_pos_iff.2 (hp v (by simp) h)
        omega
      · omega
  have h1:=key l hp
  have h2:=List.nodup_iff_count.1 hn a
  split
  · rename_i h
    have:=List.countP_pos_iff.2 h
    omega
  · rename_i h
    have : ¬ 0 < l.countP p:=fun hc => h (List.countP_pos_iff.1 hc)
    omega
theorem next_self {r : List Dart} (hn : r.Nodup) {a : Dart} (ha : a∈r) : nextD r a=a↔r=[a]:=by
  constructor
  · intro e
    have hp:=List.length_pos_of_mem ha
    unfold nextD at e
    rw [byD_ga ha] at e
    have e1:=ga_inj hn hp (e.trans (ga_idx ha).symm)
    have h1:=(idxOf_at ha).1
    rw [Nat.mod_eq_of_lt h1] at e1
    have hl : r.length=1:=by
      by_cases h : r.idxOf a+1 < r.length
      · rw [Nat.mod_eq_of_lt h] at e1; omega
      · have : r.idxOf a + 1 = r.length := by omega
        rw [this,Nat.mod_self] at e1; omega
    obtain ⟨x,rfl⟩:=List.length_eq_one_iff.1 hl
    have : a=x:=by simpa using ha
    rw [this]
  · rintro rfl
    unfold nextD; rw [byD_ga ha]; simp [ga]
theorem next_two {r : List Dart} (hn : r.Nodup) {a b : Dart} (hab : a≠b) (ha : a∈r) : (nextD r a=b∧nextD r b=a)↔(r=[a,b]∨r=[b,a]):=by
  constructor
  · rintro ⟨e1, e2⟩
    have hp:=List.length_pos_of_mem ha
    have hi : nextD r a=ga r (r.idxOf a+1):=by unfold nextD; rw [byD_ga ha]
    have e3 : ga r (r.idxOf a+2)=a:=by
      have:=nextD_ga hn hp (r.idxOf a+1)
      rw [← hi,e1,e2] at this
      exact this.symm
    have e4:=ga_inj hn hp (e3.trans (ga_idx ha).symm)
    have h1:=(idxOf_at ha).1
    rw [Nat.mod_eq_of_lt h1] at e4
    have hl : r.length≤2:=by
      rcases Nat.lt_or_ge 2 r.length with h | h
      · exfalso
        by_cases h2 : r.idxOf a+2 < r.length
        · rw [Nat.mod_eq_of_lt h2] at e4; omega
        · rw [Nat.mod_eq_sub_mod (by omega),Nat.mod_eq_of_lt (by omega)] at e4; omega
      · exact h
    have hb : b∈r:=e1 ▸ nextD_mem ha
    match r,hl,hn,ha,hb with
    | [x], _, _, ha, hb =>
      have h1 : a=x:=by simpa using ha
      have h2 : b=x:=by simpa using hb
      exact absurd (h1.trans h2.symm) hab
    | [x, y], _, _, ha, hb =>
      simp only [List.mem_cons,List.not_mem_nil,or_false] at ha hb
      rcases ha with rfl | rfl<;>rcases hb with rfl | rfl
      · exact absurd rfl hab
      · left; rfl
      · right; rfl
      · exact absurd rfl hab
  · have g2 : ∀ x y : Dart,x≠y→nextD [x,y] x=y∧nextD [x,y] y=x:=by
      intro x y h
      have hnn : [x,y].Nodup:=by simp [h]
      have a0:=nextD_ga hnn (by simp) 0
      have a1:=nextD_ga hnn (by simp) 1
      have g0 : ga [x,y] 0=x:=rfl
      have g1 : ga [x,y] 1=y:=rfl
      have g2 : ga [x,y] (1+1)=x:=by unfold ga; simp
      rw [g0,g1] at a0
      rw [g1,g2] at a1
      exact ⟨a0,a1⟩
    rintro (rfl | rfl)
    · exact g2 a b hab
    · exact (g2 b a (Ne.symm hab)).symm
theorem Cut.alone {m : List Vx} {a b : Dart} (hn : (allR l).Nodup) (hab : a≠b) (ha : a∈allR l) (hb : b∈allR l) (c : Cut l m a b) :
    aloneN m=aloneN l+(if sigD l a=a then 1 else 0)+(if sigD l b=b then 1 else 0)+(if sigD l a=b∧sigD l b=a then 1 else 0):=by
  have k1 : ∀ x,x∈allR l→((∃ v∈l,decide (v.ring=[x])=true)↔sigD l x=x):=fun x hx => by
    obtain ⟨v,hv,hxv⟩:=(allR_mem l x).1 hx
    rw [sigD_at hn hv hxv,next_self (ring_nodup hn hv) hxv]
    constructor
    · rintro ⟨w, hw, h⟩
      have h : w.ring=[x]:=of_decide_eq_true h
      rwa [at_one hn hv hw hxv (by rw [h]; simp)]
    · intro h; exact ⟨v,hv,decide_eq_true h⟩
  have k2 : (∃ v∈l,decide (v.ring=[a,b]∨v.ring=[b,a])=true)↔sigD l a=b∧sigD l b=a:=by
    obtain ⟨v,hv,hav⟩:=(allR_mem l a).1 ha
    constructor
    · rintro ⟨w, hw, h⟩
      have h:=of_decide_eq_true h
      have haw : a∈w.ring:=by rcases h with h | h<;>rw [h]<;>simp
      have hbw : b∈w.ring:=by rcases h with h | h<;>rw [h]<;>simp
      rw [sigD_at hn hw haw,sigD_at hn hw hbw]
      exact (next_two (ring_nodup hn hw) hab haw).2 h
    · rintro ⟨h1, h2⟩
      have hbv : b∈v.ring:=h1 ▸ sigD_mem hn hv hav
      rw [sigD_at hn hv hav] at h1
      rw [sigD_at hn hv hbv] at h2
      exact ⟨v,hv,decide_eq_true ((next_two (ring_nodup hn hv) hab hav).1 ⟨h1,h2⟩)⟩
  rw [alone_sum hab c hn,countP_ring (a:=a) hn (fun v _ h => by rw [of_decide_eq_true h]; simp),countP_ring (a:=b) hn (fun v _ h => by rw [of_decide_eq_true h]; simp),
    countP_ring (a:=a) hn (fun v _ h => by rcases of_decide_eq_true h with h | h<;>rw [h]<;>simp)]
  simp only [k1 a ha,k1 b hb,k2]
end
/-! ### faces -/
def trD (l : List Vx) (x : Dart) : List Dart:=orb (phiD l) 100 x
end Go.Proofs.Ytcecojdeljbjoaa.Sx
namespace Go.Proofs.Ytcecojdeljbjoaa.Sx
/-! ### what an edge less does to the faces -/
theorem Dec.faces {l m : List Vx} {a : Dart} (h : Pr l) (ha : a∈allR l) (c : Cut l m a (othD a)) {cs : List (List Dart)} (hc : Dec (phiD l) (allR l) cs) :
    ∃ cs',Dec (phiD m) (allR m) cs'∧((∃ c∈cs,a∈c∧othD a∈c)∧cs'.length+aloneN m=cs.length+aloneN l+1∧(∀ u∈allR m,∀ w∈allR m,phiD l u=a→phiD l w=othD a→¬ ∃ c∈cs',u∈c∧w∈c) ∨
      (¬ ∃ c∈cs,a∈c∧othD a∈c)∧cs'.length+aloneN m+1=cs.length+aloneN l∧(∀ u∈allR m,∀ w∈allR m,phiD l u=a→phiD l w=othD a→∃ c∈cs',u∈c∧w∈c)):=by
  have hb:=h.oth a ha
  have hab : a≠othD a:=(h.ne a ha).symm
  have hal:=c.alone h.nd hab ha hb
  have e1 : phiD l a=sigD l (othD a):=rfl
  have e2 : phiD l (othD a)=sigD l a:=by unfold phiD; rw [othD_othD]
  obtain ⟨cs',hd,hcase⟩:=hc.cut (g:=phiD m) (D':=allR m) ha hb hab (fun x => c.mem x) (fun y hy => c.phi h ha hy)
  refine ⟨cs',hd,?_⟩
  rw [e1,e2] at hcase
  have two : (∃ c∈cs,a∈c∧othD a∈c)→¬ (sigD l a=othD a∧sigD l (othD a)=a):=by
    rintro ⟨c,hcc,h1,h2⟩ ⟨h3,h4⟩
    exact hab ((hc.cy c hcc).within (S:=fun z => z=a) (fun z hz => by rw [hz,e1,h4]) h1 rfl _ h2).symm
  have one : (¬ ∃ c∈cs,a∈c∧othD a∈c)→sigD l a≠a∧sigD l (othD a)≠othD a:=by
    intro hn
    constructor
    · intro h3
      obtain ⟨c,hcc,h1⟩:=List.mem_flatten.1 ((hc.mem _).2 hb)
      have:=(hc.cy c hcc).step h1
      rw [e2,h3] at this
      exact hn ⟨c,hcc,this,h1⟩
    · intro h3
      obtain ⟨c,hcc,h1⟩:=List.mem_flatten.1 ((hc.mem _).2 ha)
      have:=(hc.cy c hcc).step h1
      rw [e1,h3] at this
      exact hn ⟨c,hcc,h1,this⟩
  rcases hcase with ⟨hs,he,hx⟩ | ⟨hs,he,hx⟩
  · refine .inl ⟨hs, ?_, hx⟩
    rw [hal,if_neg (two hs)]
    omega
  · refine .inr ⟨hs, ?_, hx⟩
    have k:=one hs
    rw [hal,if_neg k.1,if_neg k.2]
    have : (if sigD l (othD a)=a∧sigD l a=othD a then 1 else 0)=(if sigD l a=othD a∧sigD l (othD a)=a then 1 else 0):=by
      simp only [and_comm]
    omega
/-! ### which vertices an edge joins -/
theorem ringAt_lt {l : List Vx} {u : Nat} (h : u < l.length) : ringAt l u=l[u].ring:=by
  unfold ringAt; rw [List.getD_eq_getElem?_getD,List.getElem?_eq_getElem h]; rfl
theorem ringAt_mem {l : List Vx} {u : Nat} {x : Dart} (h : x∈ringAt l u) : u < l.length:=by
  rcases Nat.lt_or_ge u l.length with h1 | h1
  · exact h1
  · unfold ringAt at h
    rw [List.getD_eq_getElem?_getD,List.getElem?_eq_none h1] at h
    cases h
theorem stepV_symm {l : List Vx} (u w : Nat) (h : stepV l u w) : stepV l w u:=by
  obtain ⟨x,h1,h2⟩:=h
  exact ⟨othD x,h2,by rw [othD_othD]; exact h1⟩
theorem at_ring {l : List Vx} {x : Dart} (h : x∈allR l) : ∃ u,u < l.length∧x∈ringAt l u:=by
  obtain ⟨v,hv,hx⟩:=(allR_mem l x).1 h
  obtain ⟨i,hi,rfl⟩:=List.mem_iff_getElem.1 hv
  exact ⟨i,hi,by rw [ringAt_lt hi]; exact hx⟩
theorem ringAt_all {l : List Vx} {u : Nat} {x : Dart} (h : x∈ringAt l u) : x∈allR l:=by
  have hu:=ringAt_mem h
  rw [ringAt_lt hu] at h
  exact mem_allR (List.getElem_mem hu) h
theorem ringAt_one {l : List Vx} (hn : (allR l).Nodup) {u w : Nat} {x : Dart} (h : x∈ringAt l u) (k : x∈ringAt l w) : u=w:=by
  have hu:=ringAt_mem h
  have hw:=ringAt_mem k
  rw [ringAt_lt hu] at h
  rw [ringAt_lt hw] at k
  exact ring_one hn hu hw h k
theorem sig_ringAt {l : List Vx} (hn : (allR l).Nodup) {u : Nat} {x : Dart} (h : x∈ringAt l u) : sigD l x∈ringAt l u:=by
  have hu:=ringAt_mem h
  rw [ringAt_lt hu] at h ⊢
  exact sigD_mem hn (List.getElem_mem hu) h
theorem Cut.rings {l m : List Vx} {a b : Dart} (c : Cut l m a b) {u : Nat} {x : Dart} : x∈ringAt m u↔x∈ringAt l u∧x≠a∧x≠b:=by
  have key : ∀ (hu : u < l.length) (hu' : u < m.length),x∈m[u].ring↔x∈l[u].ring∧x≠a∧x≠b:=fun hu hu' => by
    rw [← (c.rot u hu hu').mem x,List.mem_filter,List.mem_filter]
    simp only [decide_eq_true_eq,and_assoc]
  constructor
  · intro h
    have hu:=ringAt_mem h
    have hu2 : u < l.length:=by rw [c.len]; exact hu
    rw [ringAt_lt hu] at h
    rw [ringAt_lt hu2]
    exact (key hu2 hu).1 h
  · rintro ⟨h, h1, h2⟩
    have hu:=ringAt_mem h
    have hu2 : u < m.length:=by rw [← c.len]; exact hu
    rw [ringAt_lt hu] at h
    rw [ringAt_lt hu2]
    exact (key hu hu2).2 ⟨h,h1,h2⟩
theorem Cut.step {l m : List Vx} {a : Dart} (c : Cut l m a (othD a)) {p q : Nat} (hn : (allR l).Nodup) (hp : a∈ringAt l p) (hq : othD a∈ringAt l q) (u w : Nat) : stepV l u w↔withE (stepV m) p q u w:=by
  constructor
  · rintro ⟨x, h1, h2⟩
    by_cases e1 : x=a
    · subst e1; exact .inr (.inl ⟨ringAt_one hn h1 hp,ringAt_one hn h2 hq⟩)
    · by_cases e2 : x = othD a
      · subst e2
        rw [othD_othD] at h2
        exact .inr (.inr ⟨ringAt_one hn h1 hq,ringAt_one hn h2 hp⟩)
      · refine .inl ⟨x, c.rings.2 ⟨h1, e1, e2⟩, c.rings.2 ⟨h2, fun e => e2 ?_, fun e => e1 (othD_inj e)⟩⟩
        rw [← e,othD_othD]
  · rintro (⟨x, h1, h2⟩ | ⟨rfl, rfl⟩ | ⟨rfl, rfl⟩)
    · exact ⟨x,(c.rings.1 h1).1,(c.rings.1 h2).1⟩
    · exact ⟨a,hp,hq⟩
    · exact ⟨othD a,hq,by rw [othD_othD]; exact hp⟩
theorem pth_con {l m : List Vx} {a : Dart} (h : Pr l) (c : Cut l m a (othD a)) : ∀ {r : List Dart} {x y : Dart} {u w : Nat},Pth (phiD l) x r y→(∀ z∈x :: r,z∈allR l∧z≠a∧z≠othD a)→x∈ringAt l u→y∈ringAt l w→Con (stepV m) u w:=by
  have one : ∀ {x : Dart} {u w : Nat},x∈allR l→x≠a→x≠othD a→x∈ringAt l u→phiD l x∈ringAt l w→Con (stepV m) u w:=by
    intro x u w hx h1 h2 hu hw
    obtain ⟨k,_,hk⟩:=at_ring (h.oth x hx)
    have e : k=w:=ringAt_one h.nd (sig_ringAt h.nd hk) hw
    subst e
    exact .one ⟨x,c.rings.2 ⟨hu,h1,h2⟩,c.rings.2 ⟨hk,fun e => h2 (by rw [← e,othD_othD]),fun e => h1 (othD_inj e)⟩⟩
  intro r
  induction r with
  | nil =>
    intro x y u w hp hr hu hw
    obtain ⟨h1,h2,h3⟩:=hr x (by simp)
    refine one h1 h2 h3 hu ?_
    rw [show phiD l x=y from hp]; exact hw
  | cons z r ih =>
    intro x y u w hp hr hu hw
    obtain ⟨h1,h2,h3⟩:=hr x (by simp)
    obtain ⟨h4,_,_⟩:=hr z (by simp)
    obtain ⟨k,_,hk⟩:=at_ring h4
    refine (one h1 h2 h3 hu (by rw [hp.1]; exact hk)).trans (ih hp.2 (fun z' hz' => hr z' (by simp at hz' ⊢; exact .inr hz')) hk hw)
theorem con_without {l m : List Vx} {a : Dart} (h : Pr l) (ha : a∈allR l) (c : Cut l m a (othD a)) {cs : List (List Dart)} (hc : Dec (phiD l) (allR l) cs) (hn : ¬ ∃ c∈cs,a∈c∧othD a∈c) {p q : Nat} (hp : a∈ringAt l p) (hq : othD a∈ringAt l q) :
    Con (stepV m) q p:=by
  obtain ⟨A,rest,e,he,hae,hA,pm,hd⟩:=hc.front ha
  have pA : Pth (phiD l) a A a:=hd.cy (a :: A) (by simp)
  have hphi : phiD l a∈ringAt l q:=sig_ringAt h.nd hq
  cases A with
  | nil =>
    have : phiD l a=a:=pA
    rw [this] at hphi
    rw [ringAt_one h.nd hp hphi]
    exact .refl _
  | cons x r =>
    obtain ⟨e1,e2⟩:=pA
    rw [e1] at hphi
    refine pth_con h c e2 (fun z hz => ?_) hphi hp
    have hze : z∈e:=(hA z).2 (by simp at hz ⊢; exact .inr hz)
    refine ⟨(hc.mem z).1 (List.mem_flatten.2 ⟨e,he,hze⟩),?_,fun e' => hn ⟨e,he,hae,e' ▸ hze⟩⟩
    rintro rfl
    have:=hd.nd
    simp only [List.flatten_cons,List.cons_append,List.nodup_cons] at this
    exact this.1 (by simp only [List.mem_cons,List.mem_append] at hz ⊢; rcases hz with hz | hz<;>simp [hz])
structure Eul (l : List Vx) (v e f p : Nat) : Prop where
  v : v=l.length
  e : 2 * e=(allR l).length
  f : ∃ cs,Dec (phiD l) (allR l) cs∧f=cs.length+aloneN l
  p : ∃ lab,Lab (stepV l) l.length lab∧p=partsN lab l.length
def cutE (l : List Vx) (a : Dart) : List Vx:=l.map fun v => reR v ((v.ring.filter (fun y => decide (¬ y=a))).filter (fun y => decide (¬ y=othD a)))
theorem cutE_cut (l : List Vx) (a : Dart) : Cut l (cutE l a) a (othD a):=by
  refine ⟨by simp [cutE],fun i h h' => ?_⟩
  simp only [cutE,List.getElem_map,reR]
  exact .refl _
theorem cut_len {l m : List Vx} {a : Dart} (h : Pr l) (ha : a∈allR l) (c : Cut l m a (othD a)) : (allR l).length=(allR m).length+2:=by
  have hn : (a :: othD a :: allR m).Nodup:=by
    simp only [List.nodup_cons,List.mem_cons,not_or]
    exact ⟨⟨(h.ne a ha).symm,fun hm => ((c.mem _).1 hm).2.1 rfl⟩,fun hm => ((c.mem _).1 hm).2.2 rfl,c.nd h.nd⟩
  have:=len_of_mem (b:=a :: othD a :: allR m) h.nd hn fun x => by
    simp only [List.mem_cons,c.mem]
    constructor
    · intro hx
      by_cases h1 : x=a
      · exact .inl h1
      · by_cases h2 : x = othD a
        · exact .inr (.inl h2)
        · exact .inr (.inr ⟨hx,h1,h2⟩)
    · rintro (rfl | rfl | ⟨hx, _⟩)
      · exact ha
      · exact h.oth _ ha
      · exact hx
  rw [this]; rfl
theorem Eul.cut {l m : List Vx} {a : Dart} (h : Pr l) (ha : a∈allR l) (c : Cut l m a (othD a)) {v e f p v' e' f' p' : Nat} (k : Eul l v e f p) (k' : Eul m v' e' f' p') :
    v'=v∧e=e'+1∧((f'=f+1∧(p'=p∨p'=p+1))∨(f=f'+1∧p'=p)):=by
  obtain ⟨cs,hc,rfl⟩:=k.f
  obtain ⟨cs0,hc0,rfl⟩:=k'.f
  obtain ⟨lab,hl,rfl⟩:=k.p
  obtain ⟨lab',hl',rfl⟩:=k'.p
  obtain ⟨cs',hc',hcase⟩:=hc.faces h ha c
  have hlen:=hc'.len hc0
  have hcl:=cut_len h ha c
  have h1:=k.e
  have h2:=k'.e
  obtain ⟨i,hi,hai⟩:=at_ring ha
  obtain ⟨j,hj,haj⟩:=at_ring (h.oth a ha)
  have hl2 : Lab (withE (stepV m) i j) l.length lab:=hl.iff fun u w => c.step h.nd hai haj u w
  rw [c.len] at hl2 hi hj
  have hpw:=parts_with (R:=stepV m) stepV_symm hi hj hl' hl2
  refine ⟨by rw [k.v,k'.v,c.len],by omega,?_⟩
  rw [← c.len] at hpw
  rw [← c.len]
  rcases hcase with ⟨_,hf,_⟩ | ⟨hn,hf,_⟩
  · refine .inl ⟨by omega, ?_⟩
    split at hpw<;>omega
  · refine .inr ⟨by omega, ?_⟩
    have hcon:=(con_without h ha c hc hn hai haj).symm stepV_symm
    rw [if_pos hcon] at hpw
    omega
theorem eul_ex {l : List Vx} (h : Pr l) {e : Nat} (he : 2 * e=(allR l).length) : ∃ f p,Eul l l.length e f p:=by
  obtain ⟨lab,hl⟩:=lab_ex (stepV l) l.length
  exact ⟨_,_,rfl,he,⟨_,(phiD_oo h).dec (Nat.le_refl _),rfl⟩,⟨lab,hl,rfl⟩⟩
theorem Eul.uniq {l : List Vx} {v e f p v' e' f' p' : Nat} (k : Eul l v e f p) (k' : Eul l v' e' f' p') : v'=v∧e'=e∧f'=f∧p'=p:=by
  obtain ⟨cs,hc,rfl⟩:=k.f
  obtain ⟨cs0,hc0,rfl⟩:=k'.f
  obtain ⟨lab,hl,rfl⟩:=k.p
  obtain ⟨lab',hl',rfl⟩:=k'.p
  refine ⟨by rw [k.v,k'.v],by have:=k.e; have:=k'.e; omega,by rw [hc.len hc0],partsN_congr fun u hu => hl'.uniq hl hu⟩
theorem Eul.genus : ∀ (n : Nat) {l : List Vx},(allR l).length≤n→Pr l→∀ {v e f p : Nat},Eul l v e f p→∃ g : Nat,v+f+2 * g=e+2 * p:=by
  intro n
  induction n with
  | zero =>
    intro l hn h v e f p k
    have hnil : allR l=[]:=List.eq_nil_of_length_eq_zero (by omega)
    obtain ⟨cs,hc,rfl⟩:=k.f
    obtain ⟨lab,hl,rfl⟩:=k.p
    have he:=k.e
    rw [hnil] at he
    have hcs : cs=[]:=by
      cases cs with
      | nil => rfl
      | cons c cs =>
        have:=hc.cy c (by simp)
        cases c with
        | nil => cases this
        | cons x r =>
          have:=(hc.mem x).1 (by simp)
          rw [hnil] at this; cases this
    subst hcs
    have hal : aloneN l=l.length:=by
      unfold aloneN
      refine List.countP_eq_length.2 fun v hv => ?_
      cases hr : v.ring with
      | nil => rfl
      | cons x r =>
        have:=mem_allR hv (x:=x) (by rw [hr]; simp)
        rw [hnil] at this; cases this
    have hparts:=parts_none hl (fun u w => by
      rintro ⟨x,h1,_⟩
      have:=ringAt_all (u:=u) h1
      rw [hnil] at this; cases this)
    refine ⟨0,?_⟩
    rw [k.v,hal,hparts]
    simp at he
    simp; omega
  | succ n ih =>
    intro l hn h v e f p k
    by_cases h0 : (allR l).length≤n
    · exact ih h0 h k
    · have hne : allR l ≠ [] := fun e => by rw [e] at h0; simp at h0
      obtain ⟨a,ha⟩:=List.exists_mem_of_ne_nil _ hne
      have c:=cutE_cut l a
      have h':=c.pr h
      have hcl:=cut_len h ha c
      have he:=k.e
      obtain ⟨f',p',k'⟩:=eul_ex h' (e:=e - 1) (by omega)
      obtain ⟨g',hg'⟩:=ih (by omega) h' k'
      obtain ⟨a1,a2,a3⟩:=Eul.cut h ha c k k'
      rcases a3 with ⟨a3,a4 | a4⟩ | ⟨a3,a4⟩
      · exact ⟨g'+1,by omega⟩
      · exact ⟨g',by omega⟩
      · exact ⟨g',by omega⟩
theorem Eul.faces_le {l : List Vx} (h : Pr l) {v e f p : Nat} (k : Eul l v e f p) : p≤f∧p≤v:=by
  obtain ⟨cs,hc,rfl⟩:=k.f
  obtain ⟨lab,hl,rfl⟩:=k.p
  refine ⟨?_,by rw [k.v]; exact partsN_le _ _⟩
  -- darts of one face are in one part
  have key : ∀ c∈cs,∀ x∈c,∀ y∈c,∀ u w,x∈ringAt l u→y∈ringAt l w→Con (stepV l) u w:=by
    intro c hcc x hx y hy u w hu hw
    have:=(hc.cy c hcc).within (S:=fun z => z∈allR l∧∀ w,z∈ringAt l w→Con (stepV l) u w) (fun z hz => by
      obtain ⟨h1,h2⟩:=hz
      obtain ⟨i,_,hi⟩:=at_ring h1
      obtain ⟨j,_,hj⟩:=at_ring (h.oth z h1)
      have hs:=sig_ringAt h.nd hj
      refine ⟨ringAt_all hs,fun w hw => ?_⟩
      have e : j=w:=ringAt_one h.nd hs hw
      subst e
      exact (h2 i hi).trans (.one ⟨z,hi,hj⟩)) hx ⟨(hc.mem x).1 (List.mem_flatten.2 ⟨c,hcc,hx⟩),fun w hw => by rw [ringAt_one h.nd hu hw]; exact .refl _⟩ y hy
    exact this.2 w hw
  unfold partsN aloneN
  -- those whose ring is empty,those whose ring is not
  have count_split : ∀ (us : List Nat),us.countP (fun u => decide (lab u=u))=us.countP (fun u => decide (lab u=u∧ringAt l u=[]))+us.countP (fun u => decide (lab u=u∧ringAt l u≠[])):=by
    intro us
    induction us with
    | nil => rfl
    | cons u us ih =>
      simp only [List.countP_cons,ih,decide_eq_true_eq]
      by_cases h1 : lab u=u<;>by_cases h2 : ringAt l u=[]<;>simp [h1,h2]<;>omega
  have e1 : (List.range l.length).countP (fun u => decide (lab u=u∧ringAt l u=[]))≤l.countP (fun v => v.ring.isEmpty):=by
    have e : l.countP (fun v => v.ring.isEmpty)=(List.range l.length).countP (fun u => (ringAt l u).isEmpty):=by
      have : l=(List.range l.length).map (fun u => l.getD u ⟨ID0,[],⟨#[]⟩,0⟩):=by
        refine List.ext_getElem (by simp) fun i h1 h2 => ?_
        simp [h1]
      conv => lhs; rw [this]
      rw [List.countP_map]; rfl
    rw [e]
    refine List.countP_mono_left fun u _ hu => ?_
    have:=of_decide_eq_true hu
    rw [this.2]; rfl
  have e2 : (List.range l.length).countP (fun u => decide (lab u=u∧ringAt l u≠[]))≤cs.length:=by
    rw [List.countP_eq_length_filter]
    have inj : ∀ (us : List Nat) (ds : List (List Dart)),us.Nodup→(∀ d∈ds,d∈cs)→(∀ u∈us,u < l.length∧lab u=u∧∃ x∈ringAt l u,x∈ds.flatten)→us.length≤ds.length:=by
      intro us
      induction us with
      | nil => intro ds _ _ _; exact Nat.zero_le _
      | cons u us ih =>
        intro ds hnd hds hus
        rw [List.nodup_cons] at hnd
        obtain ⟨h1,h2,x,hx,hxd⟩:=hus u (by simp)
        obtain ⟨d,hd,hxd⟩:=List.mem_flatten.1 hxd
        obtain ⟨rest,pm⟩:=perm_front hd
        have:=ih rest hnd.2 (fun d hd => hds d (pm.mem_iff.2 (by simp [hd]))) (fun w hw => by
          obtain ⟨k1,k2,y,hy,hyd⟩:=hus w (by simp [hw])
          refine ⟨k1,k2,y,hy,?_⟩
          have hyd':=(pm.flatten.mem_iff).1 hyd
          rw [List.flatten_cons,List.mem_append] at hyd'
          rcases hyd' with hyd' | hyd'
          · exfalso
            have hcon:=key d (hds d hd) x hxd y hyd' u w hx hy
            have:=(hl.eq stepV_symm h1 k1).1 hcon
            rw [h2,k2] at this
            exact hnd.1 (this ▸ hw)
          · exact hyd')
        rw [pm.length_eq]
        simp; omega
    refine inj _ cs (List.nodup_range.filter _) (fun _ h => h) fun u hu => ?_
    obtain ⟨hu1,hu2⟩:=List.mem_filter.1 hu
    have hu2:=of_decide_eq_true hu2
    obtain ⟨x,hx⟩:=List.exists_mem_of_ne_nil _ hu2.2
    exact ⟨List.mem_range.1 hu1,hu2.1,x,hx,(hc.mem x).2 (ringAt_all hx)⟩
  have:=count_split (List.range l.length)
  omega
end Go.Proofs.Ytcecojdeljbjoaa.Sx
namespace Go.Proofs.Ytcecojdeljbjoaa.Sx
open Go
theorem c_ident_Other (x : Dart) (h : x.d=0∨x.d=1) : call F 100 [.agg [.int .i64 x.e.s,.int .i64 x.e.n,.int .i64 x.d]]=some (.agg [.int .i64 x.e.s,.int .i64 x.e.n,.int .i64 (1 - x.d)]):=by
  obtain ⟨e,d⟩:=x
  simp only at h
  have h0 : IntKind.i64.wrap (xorB .i64 0 1)=1:=by decide
  have h1 : IntKind.i64.wrap (xorB .i64 1 1)=0:=by decide
  rcases h with rfl | rfl
  · rw [call_code F (show F 100 = some (.code f100) from rfl)]
    simp only [f100,h0,go_sem,seval]
  · rw [call_code F (show F 100 = some (.code f100) from rfl)]
    simp only [f100,h1,go_sem,seval]
theorem c_r01_Other (x : Dart) (h : x.d=0∨x.d=1) : call F 105 [.agg [.int .i64 x.e.s,.int .i64 x.e.n,.int .i64 x.d]]=some (.agg [.int .i64 x.e.s,.int .i64 x.e.n,.int .i64 (1 - x.d)]):=by
  obtain ⟨e,d⟩:=x
  simp only at h
  have h0 : IntKind.i64.wrap 1=1:=by decide
  have h1 : IntKind.i64.wrap 0=0:=by decide
  rcases h with rfl | rfl
  · rw [call_code F (show F 105 = some (.code f105) from rfl)]
    simp only [f105,h0,go_sem,seval]
  · rw [call_code F (show F 105 = some (.code f105) from rfl)]
    simp only [f105,h1,go_sem,seval]
theorem dartsE_snoc (es : List Ed) (e : Ed) : dartsE (es++[e])=dartsE es++[⟨e.id,0⟩,⟨e.id,1⟩]:=by unfold dartsE; rw [List.flatMap_append]; simp
theorem rowsBy_two {l : List Dart} (e : ID) : rowsBy Dart.c l++[[.int .i64 e.s,.int .i64 e.n,.int .i64 0],[.int .i64 e.s,.int .i64 e.n,.int .i64 1]]=rowsBy Dart.c (l++[⟨e,0⟩,⟨e,1⟩]):=by rw [← rowsBy_append]; rfl
theorem i_face_Darts (vs : TV) (es : List Ed) (he : es.length≤100000) : call F 94 [.agg [vs,.sl .shared 4 (rowsBy Ed.c es)]]=some (.sl (.own 56) 3 (rowsBy Dart.c (dartsE es))):=by
  have hw : es.length≤9223372036854775807:=by omega
  have l1 : E (cs F) 0 f94_l1 (⟨(upd (upd (upd (upd Sx.e0 10 (.v (.int .i64 (0)))) 9 (.v (.int .i64 ((es.length : Int))))) 8 (.v (.sl .shared 4 (rowsBy Ed.c es)))) 3 (.v (.sl (.tight 56) 3 []))),Sx.h0⟩ : St)=some (if es.length=0 then (.exit 0,(⟨(upd Sx.e0 3 (.v (.sl (.tight 56) 3 []))),Sx.h0⟩ : St)) else (.exit 0,(⟨(upd Sx.e0 3 (.s 3 0 (dartsE es).length)),(upd Sx.h0 3 (some (.arr false 56 3 (rowsBy Dart.c (dartsE es)))))⟩ : St))):=by
    refine loop_grow (b:=f94_b1) _ (fun q0 => (⟨(upd (upd (upd (upd Sx.e0 10 (.v (.int .i64 ((q0 : Int))))) 9 (.v (.int .i64 ((es.length : Int))))) 8 (.v (.sl .shared 4 (rowsBy Ed.c es)))) 3 (.s 3 0 (dartsE (es.take q0)).length)),(upd Sx.h0 3 (some (.arr false 56 3 (rowsBy Dart.c (dartsE (es.take q0))))))⟩ : St)) (es.length) ?_ (by simp) ?_ ?_ ?_ (by simp)
    · intro h0
      simp only [f94_b1,show decide ((0 : Int) < (es.length : Int))=false from decide_eq_false (by omega),go_sem,seval]
    · intro hn
      have hs : es.take 1=[es[0]]:=List.take_succ_eq_append_getElem (i:=0) hn
      have d1 : decide ((0 : Int) < (es.length : Int))=true:=decide_eq_true (by omega)
      have h1z : (0 : Int) < (es.length : Int):=by omega
      have hd : dartsE [es[0]]=[⟨es[0].id,0⟩,⟨es[0].id,1⟩]:=by simp [dartsE]
      have c1:=c_ident_Other ⟨es[0].id,0⟩ (.inl rfl)
      simp only [Int.reduceSub] at c1
      rw [hs,hd]
      simp only [f94_b1,d1,h1z,rowsBy_get Ed.c hn,Ed.c,c1,show IntKind.i64.wrap 1=1 from rfl,rowsBy,Dart.c,go_sem,seval]
    · intro i hi0 hi
      have h1z : (i : Int) < (es.length : Int):=by omega
      have hs : es.take (i+1)=es.take i++[es[i]]:=List.take_succ_eq_append_getElem hi
      have hl : (dartsE (es.take i)).length≤2 * i:=by rw [dartsE_len,List.length_take]; omega
      have c1:=c_ident_Other ⟨es[i].id,0⟩ (.inl rfl)
      simp only [Int.reduceSub] at c1
      rw [hs,dartsE_snoc]
      generalize dartsE (es.take i)=q at *
      have h5 : (q.length+2) * 24≤140737488355328:=by omega
      have h6:=rowsBy_two (l:=q) es[i].id
      simp only [f94_b1,dec_lt hi,h1z,rowsBy_get Ed.c hi,Ed.c,c1,h5,h6,wrap_succ hi hw,List.length_append,go_sem,seval]
    · intro hn
      rw [List.take_length]
      simp only [f94_b1,dec_ge (Nat.le_refl es.length),go_sem,seval]
  rw [call_code F (show F 94=some (.code f94) from rfl)]
  by_cases h0 : es.length=0
  · rw [if_pos h0] at l1
    have e0 : es=[]:=List.eq_nil_of_length_eq_zero h0
    have e1 : dartsE es=[]:=by rw [e0]; rfl
    rw [e1]
    simp only [f94,l1,rowsBy,go_sem,seval]
  · rw [if_neg h0] at l1
    simp only [f94,l1,go_sem,seval]
theorem i_r05_Darts (vs : TV) (es : List Ed) (he : es.length≤100000) : call F 88 [.agg [vs,.sl .shared 4 (rowsBy Ed.c es)]]=some (.sl (.own 56) 3 (rowsBy Dart.c (dartsE es))):=by
  have hw : es.length≤9223372036854775807:=by omega
  have h0 : dartsE (es.take 0)=[]:=rfl
  have l1 : E (cs F) 0 f88_l1 (⟨(upd (upd (upd Sx.e0 4 (.v (.int .i64 (0)))) 3 (.s 3 0 (dartsE (es.take 0)).length)) 1 (.p 1 0)),(upd (upd Sx.h0 3 (some (.arr false 56 3 (rowsBy Dart.c (dartsE (es.take 0)))))) 1 (some (.var false [(.v vs),(.v (.sl .shared 4 (rowsBy Ed.c es)))])))⟩ : St)=some (.exit 0,(⟨(upd Sx.e0 3 (.s 3 0 (dartsE es).length)),(upd Sx.h0 3 (some (.arr false 56 3 (rowsBy Dart.c (dartsE es)))))⟩ : St)):=by
    refine loop_to (b:=f88_b1) (fun q0 => (⟨(upd (upd (upd Sx.e0 4 (.v (.int .i64 ((q0 : Int))))) 3 (.s 3 0 (dartsE (es.take q0)).length)) 1 (.p 1 0)),(upd (upd Sx.h0 3 (some (.arr false 56 3 (rowsBy Dart.c (dartsE (es.take q0)))))) 1 (some (.var false [(.v vs),(.v (.sl .shared 4 (rowsBy Ed.c es)))])))⟩ : St)) (es.length) ?_ ?_ (by simp)
    · intro i hi
      have h1z : (i : Int) < (es.length : Int):=by omega
      have hs : es.take (i+1)=es.take i++[es[i]]:=List.take_succ_eq_append_getElem hi
      have hl : (dartsE (es.take i)).length≤2 * i:=by rw [dartsE_len,List.length_take]; omega
      rw [hs,dartsE_snoc]
      generalize dartsE (es.take i)=q at *
      have h5 : (q.length+2) * 24≤140737488355328:=by omega
      have h6:=rowsBy_two (l:=q) es[i].id
      simp only [f88_b1,dec_lt hi,h1z,rowsBy_get Ed.c hi,Ed.c,h5,h6,wrap_succ hi hw,List.length_append,go_sem,seval]
    · rw [List.take_length]
      simp only [f88_b1,dec_ge (Nat.le_refl es.length),go_sem,seval]
  rw [h0] at l1
  simp only [rowsBy,List.length_nil] at l1
  rw [call_code F (show F 88=some (.code f88) from rfl)]
  simp only [f88,l1,go_sem,seval]
theorem ring_le {l : List Vx} {v : Vx} (hv : v∈l) : v.ring.length≤(allR l).length:=by
  induction l with
  | nil => cases hv
  | cons u l ih =>
    rw [allR_cons,List.length_append]
    rcases List.mem_cons.1 hv with rfl | hv
    · omega
    · have:=ih hv; omega
theorem WF.fits {l : List Vx} {es : List Ed} (h : WF l es) : Fits l:=by have:=h.lv; exact Fits.of (by omega)
theorem WF.ring80 {l : List Vx} {es : List Ed} (h : WF l es) {v : Vx} (hv : v∈l) : v.ring.length≤80:=by
  have h1:=ring_le hv
  rw [h.many] at h1
  have:=h.le
  omega
theorem WF.fitsR {l : List Vx} {es : List Ed} (h : WF l es) : FitsR l:=fun v hv => by
  have:=h.ring80 hv
  exact Fits.of (by omega)
theorem WF.side {l : List Vx} {es : List Ed} (h : WF l es) {x : Dart} (hx : x∈allR l) : x.d=0∨x.d=1:=by
  obtain ⟨e,_,h⟩:=dartsE_mem.1 ((h.mem x).1 hx)
  rcases h with rfl | rfl
  · exact .inl rfl
  · exact .inr rfl
theorem sigD_none {l : List Vx} {x : Dart} (h : atBy l x=none) : sigD l x=Dart0:=by unfold sigD; rw [h]
theorem sigD_some {l : List Vx} {x : Dart} {v : Vx} (h : atBy l x=some v) : sigD l x=nextD v.ring x:=by unfold sigD; rw [h]
theorem at_mem {l : List Vx} {x : Dart} {v : Vx} (h : atBy l x=some v) : x∈allR l:=mem_allR (atBy_some h).1 (atBy_some h).2
def sgT (l : List Vx) (x : Dart) : TV:=.tup [dartT (sigD l x),.bool (decide (x∈allR l))]
def phT (l : List Vx) (x : Dart) : TV:=.tup [dartT (if x∈allR l then phiD l x else Dart0),.bool (decide (x∈allR l))]
theorem i_face_Sigma (l : List Vx) (x : Dart) (hl : Fits l) (hr : FitsR l) (es : TV) : call F 107 [.agg [.sl .shared 5 (rowsBy Vx.c l),es],.agg [.int .i64 x.e.s,.int .i64 x.e.n,.int .i64 x.d]]=some (sgT l x):=by
  have hle : (l).length≤5864062014634:=hl.le
  have hw : (l).length≤9223372036854775807:=Nat.le_trans hle (by decide)
  have S : ∀ n,n≤(l).length→(∀ i,i < n→∀ hi : i < (l).length,(fun v : Vx => decide (x∈v.ring)) (l)[i]=false)→∀ r,E (cs F) 0 f107_b1 (⟨(upd (upd (upd (upd (upd Sx.e0 13 (.v (.int .i64 ((n : Int))))) 12 (.v (.int .i64 ((l.length : Int))))) 11 (.v (.sl .shared 5 (rowsBy Vx.c l)))) 4 (.p 4 0)) 3 (.p 3 0)),(upd (upd Sx.h0 4 (some (.var false [(.v (.int .i64 (0))),(.v (.int .i64 (0))),(.v (.int .i64 (0)))]))) 3 (some (.var false [(.v (.int .i64 (x.e.s))),(.v (.int .i64 (x.e.n))),(.v (.int .i64 (x.d)))])))⟩ : St)=some r→r.1≠.norm →
      E (cs F) 0 f107_l1 (⟨(upd (upd (upd (upd (upd Sx.e0 13 (.v (.int .i64 (0)))) 12 (.v (.int .i64 ((l.length : Int))))) 11 (.v (.sl .shared 5 (rowsBy Vx.c l)))) 4 (.p 4 0)) 3 (.p 3 0)),(upd (upd Sx.h0 4 (some (.var false [(.v (.int .i64 (0))),(.v (.int .i64 (0))),(.v (.int .i64 (0)))]))) 3 (some (.var false [(.v (.int .i64 (x.e.s))),(.v (.int .i64 (x.e.n))),(.v (.int .i64 (x.d)))])))⟩ : St)=some r:=by
    intro n hn hno r hf hrr
    refine loop_to (b:=f107_b1) (fun i => (⟨(upd (upd (upd (upd (upd Sx.e0 13 (.v (.int .i64 ((i : Int))))) 12 (.v (.int .i64 ((l.length : Int))))) 11 (.v (.sl .shared 5 (rowsBy Vx.c l)))) 4 (.p 4 0)) 3 (.p 3 0)),(upd (upd Sx.h0 4 (some (.var false [(.v (.int .i64 (0))),(.v (.int .i64 (0))),(.v (.int .i64 (0)))]))) 3 (some (.var false [(.v (.int .i64 (x.e.s))),(.v (.int .i64 (x.e.n))),(.v (.int .i64 (x.d)))])))⟩ : St)) n ?_ hf hrr
    intro i hi
    have h1 : i < (l).length:=Nat.lt_of_lt_of_le hi hn
    have h1z : (i : Int) < ((l).length : Int):=Int.ofNat_lt.2 h1
    have hne:=hno i hi h1
    have hv:=i_ring_Next l[i].ring x (hr _ (List.getElem_mem h1))
    rw [show decide (x∈l[i].ring)=false from hne] at hv
    simp only [dartT] at hv
    simp only [f107_b1,dec_lt h1,h1z,rowsBy_get Vx.c h1,Vx.c,hv,wrap_succ h1 hw,go_sem,seval]
  have S:=S ((l).findIdx (fun v : Vx => decide (x∈v.ring))) List.findIdx_le_length (fun i h1 h2 => findIdx_not h1 h2)
  rcases findIdx_cases (fun v : Vx => decide (x∈v.ring)) (l) with h0 | ⟨hlt,hp⟩
  · rw [h0] at S
    have := S _ (by simp only [f107_b1, dec_ge (Nat.le_refl (l).length), go_sem, seval]
                    rfl) (by simp)
    have hn : atBy l x=none:=by rw [atBy,firstBy_none h0]
    rw [sgT,sigD_none hn,dec_f (atBy_none hn)]
    rw [call_code F (show F 107=some (.code f107) from rfl)]
    simp only [f107,this,dartT,Dart0,ID0,go_sem,seval]
  · have hs : atBy l x = some l[(l).findIdx (fun v : Vx => decide (x ∈ v.ring))] := by rw [atBy, firstBy_some hlt]
    rw [sgT,sigD_some hs,dec_t (at_mem hs)]
    generalize (l).findIdx (fun v : Vx => decide (x∈v.ring))=n at *
    have hltz : (n : Int) < ((l).length : Int):=Int.ofNat_lt.2 hlt
    have hv:=i_ring_Next l[n].ring x (hr _ (List.getElem_mem hlt))
    rw [show decide (x∈l[n].ring)=true from hp] at hv
    simp only [dartT] at hv ⊢
    have := S _ (by simp only [f107_b1, dec_lt hlt, hltz, rowsBy_get Vx.c hlt, Vx.c, hv, go_sem, seval]
                    rfl) (by simp)
    rw [call_code F (show F 107=some (.code f107) from rfl)]
    simp only [f107,this,go_sem,seval]
theorem atBy_isSome {l : List Vx} {x : Dart} (h : x∈allR l) : ∃ v,atBy l x=some v:=by
  cases hc : atBy l x with
  | none => exact absurd h (atBy_none hc)
  | some v => exact ⟨v,rfl⟩
theorem i_face_Phi {l : List Vx} {es : List Ed} (h : WF l es) (x : Dart) : call F 102 [.agg [.sl .shared 5 (rowsBy Vx.c l),.sl .shared 4 (rowsBy Ed.c es)],.agg [.int .i64 x.e.s,.int .i64 x.e.n,.int .i64 x.d]]=some (phT l x):=by
  have ca:=i_At l x h.fits h.fitsR (.sl .shared 4 (rowsBy Ed.c es))
  by_cases hx : x∈allR l
  · obtain ⟨v, hv⟩ := atBy_isSome hx
    have co:=c_ident_Other x (h.side hx)
    have cg:=i_face_Sigma l (othD x) h.fits h.fitsR (.sl .shared 4 (rowsBy Ed.c es))
    have h2 : othD x∈allR l:=h.pr.oth x hx
    rw [sgT,dec_t h2] at cg
    rw [hv] at ca
    rw [phT,if_pos hx,dec_t hx]
    simp only [atT,idT,dartT,othD] at ca cg ⊢
    rw [call_code F (show F 102=some (.code f102) from rfl)]
    simp only [f102,ca,co,cg,phiD,othD,go_sem,seval]
  · have hn : atBy l x=none:=by
      cases hc : atBy l x with
      | none => rfl
      | some v => exact absurd (at_mem hc) hx
    rw [hn] at ca
    rw [phT,if_neg hx,dec_f hx]
    simp only [atT,idT,dartT,Dart0,ID0] at ca ⊢
    rw [call_code F (show F 102=some (.code f102) from rfl)]
    simp only [f102,ca,go_sem,seval]
theorem i_r05_Sigma {l : List Vx} {es : List Ed} (h : WF l es) (x : Dart) : call F 104 [.agg [.sl .shared 5 (rowsBy Vx.c l),.sl .shared 4 (rowsBy Ed.c es)],.agg [.int .i64 x.e.s,.int .i64 x.e.n,.int .i64 x.d]]=some (sgT l x):=by
  have ca:=i_r04_At l x h.fits h.fitsR (.sl .shared 4 (rowsBy Ed.c es))
  by_cases hx : x∈allR l
  · obtain ⟨v, hv⟩ := atBy_isSome hx
    have hvl:=(atBy_some hv).1
    have cv:=i_r04_Vertex l v.id h.fits (.sl .shared 4 (rowsBy Ed.c es))
    have cn:=i_r03_Next v.ring x (h.fitsR v hvl)
    rw [vxBy_mem h.sv hvl] at cv
    rw [hv] at ca
    rw [dec_t (atBy_some hv).2] at cn
    rw [sgT,sigD_some hv,dec_t hx]
    simp only [atT,idT,dartT,vxT] at ca cv cn ⊢
    rw [call_code F (show F 104=some (.code f104) from rfl)]
    simp only [f104,ca,cv,cn,go_sem,seval]
  · have hn : atBy l x=none:=by
      cases hc : atBy l x with
      | none => rfl
      | some v => exact absurd (at_mem hc) hx
    rw [hn] at ca
    rw [sgT,sigD_none hn,dec_f hx]
    simp only [atT,idT,dartT,Dart0,ID0] at ca ⊢
    rw [call_code F (show F 104=some (.code f104) from rfl)]
    simp only [f104,ca,go_sem,seval]
theorem i_r05_Phi {l : List Vx} {es : List Ed} (h : WF l es) (x : Dart) : call F 97 [.agg [.sl .shared 5 (rowsBy Vx.c l),.sl .shared 4 (rowsBy Ed.c es)],.agg [.int .i64 x.e.s,.int .i64 x.e.n,.int .i64 x.d]]=some (phT l x):=by
  have ca:=i_r04_At l x h.fits h.fitsR (.sl .shared 4 (rowsBy Ed.c es))
  by_cases hx : x∈allR l
  · obtain ⟨v, hv⟩ := atBy_isSome hx
    have co:=c_r01_Other x (h.side hx)
    have cg:=i_r05_Sigma h (othD x)
    have h2 : othD x∈allR l:=h.pr.oth x hx
    rw [sgT,dec_t h2] at cg
    rw [hv] at ca
    rw [phT,if_pos hx,dec_t hx]
    simp only [atT,idT,dartT,othD] at ca cg ⊢
    rw [call_code F (show F 97=some (.code f97) from rfl)]
    simp only [f97,ca,co,cg,phiD,othD,go_sem,seval]
  · have hn : atBy l x=none:=by
      cases hc : atBy l x with
      | none => rfl
      | some v => exact absurd (at_mem hc) hx
    rw [hn] at ca
    rw [phT,if_neg hx,dec_f hx]
    simp only [atT,idT,dartT,Dart0,ID0] at ca ⊢
    rw [call_code F (show F 97=some (.code f97) from rfl)]
    simp only [f97,ca,go_sem,seval]
end Go.Proofs.Ytcecojdeljbjoaa.Sx
namespace Go.Proofs.Ytcecojdeljbjoaa.Sx
open Go
def firsts (f : Dart→Dart) (x : Dart) (i : Nat) : List Dart:=(List.range i).map fun k => it f k x
theorem firsts_snoc (f : Dart→Dart) (x : Dart) (i : Nat) : firsts f x (i+1)=firsts f x i++[it f i x]:=by unfold firsts; rw [List.range_succ,List.map_append]; rfl
theorem firsts_len (f : Dart→Dart) (x : Dart) (i : Nat) : (firsts f x i).length=i:=by unfold firsts; simp
def pcD (x : Dart) : TV:=.pc [.int .i64 x.e.s,.int .i64 x.e.n,.int .i64 x.d]
def obD (x : Dart) : Option Ob:=some (.var false [.v (.int .i64 x.e.s),.v (.int .i64 x.e.n),.v (.int .i64 x.d)])
def pcG (l : List Vx) (es : List Ed) : TV:=.pc [.sl .shared 5 (rowsBy Vx.c l),.sl .shared 4 (rowsBy Ed.c es)]
theorem rowsBy_dart {l : List Dart} (x : Dart) : rowsBy Dart.c l++[[.int .i64 x.e.s,.int .i64 x.e.n,.int .i64 x.d]]=rowsBy Dart.c (l++[x]):=rowsBy_snoc Dart.c l x
def asE (l : List Vx) (es : List Ed) (x : Dart) : Nat→LV:=upd (upd (upd (upd Sx.e0 4 (LV.p 1000004 0)) 2 (.v (pcG l es))) 1 (.v (pcD x))) 0 .u
def asF (l : List Vx) (es : List Ed) (x : Dart) : Nat→LV:=upd (upd (upd (upd (upd Sx.e0 22 (.v (.bool false))) 4 (LV.p 1000004 0)) 2 (.v (pcG l es))) 1 (.v (pcD x))) 0 .u
theorem i_round (l : List Vx) (es : List Ed) (x : Dart) : call F 95 [.agg [.sl .shared 5 (rowsBy Vx.c l),.sl .shared 4 (rowsBy Ed.c es)],.agg [.int .i64 x.e.s,.int .i64 x.e.n,.int .i64 x.d]]=some (.fn 101 [pcD x,pcG l es]):=by
  simp only [pcD,pcG]
  rw [call_code F (show F 95=some (.code f95) from rfl)]
  simp only [f95,go_sem,seval]
def trT (l : List Vx) (x : Dart) : List Dart:=if x∈allR l then trD l x else []
theorem trT_fits {l : List Vx} {es : List Ed} (h : WF l es) (x : Dart) : (trT l x).length≤80:=by
  unfold trT
  split
  · rename_i hx
    have oo:=phiD_oo h.pr
    have hlen : (allR l).length≤80:=by rw [h.many]; have:=h.le; omega
    have:=nodup_sub (oo.orb_nd hx 100) (oo.orb_in hx 100)
    exact Nat.le_trans this hlen
  · exact Nat.zero_le _
end Go.Proofs.Ytcecojdeljbjoaa.Sx
namespace Go.Proofs.Ytcecojdeljbjoaa.Sx
open Go
def rowF (p : List Dart) : List TV:=[.sl .shared 3 (rowsBy Dart.c p)]
def stepF (f : Dart→Dart) (q : List (List Dart) × List Dart) (x : Dart) : List (List Dart) × List Dart:=if x∈q.2 then q else (q.1++[orb f 100 x],q.2++orb f 100 x)
theorem stepF_fold (f : Dart→Dart) : ∀ (xs : List Dart) (q : List (List Dart) × List Dart),(xs.foldl (stepF f) q).1=q.1++cycF f 100 xs q.2
  | [],q => by simp [cycF]
  | x :: xs, q => by
    rw [List.foldl_cons,stepF_fold f xs,stepF,cycF]
    split
    · rfl
    · simp
theorem stepF_told {f : Dart→Dart} {D : List Dart} (oo : OneOne f D) (hn : D.length≤100) : ∀ (xs : List Dart) (q : List (List Dart) × List Dart),(∀ x∈xs,x∈D)→(∀ y∈q.2,y∈D∧f y∈q.2)→(∀ y∈(xs.foldl (stepF f) q).2,y∈D∧f y∈(xs.foldl (stepF f) q).2)
  | [],q,_,h => h
  | x :: xs, q, hx, h => by
    rw [List.foldl_cons]
    refine stepF_told oo hn xs _ (fun y hy => hx y (by simp [hy])) ?_
    unfold stepF
    split
    · exact h
    · intro y hy
      simp only [List.mem_append] at hy ⊢
      rcases hy with hy | hy
      · exact ⟨(h y hy).1,.inl (h y hy).2⟩
      · exact ⟨oo.orb_in (hx x (by simp)) 100 y hy,.inr ((oo.orb_cy (hx x (by simp)) hn).step hy)⟩
def facesD (l : List Vx) (es : List Ed) : List (List Dart):=cycF (phiD l) 100 (dartsE es) []
def faR (v3 : LV) (k i : Nat) (fn : LV) : Rnd:={ bd:=.seq f85_ra f85_rb,p:=23,env:=upd (upd (upd (upd (upd (upd (upd (upd Sx.e0 22 fn) 13 (.v (.int .i64 ((i : Int))))) 12 (.v (.int .i64 ((k : Int))))) 11 (.s 11 0 k)) 7 (LV.p 7 0)) 4 (LV.p 4 0)) 3 v3) 1 (LV.p 1 0),lo:=0,ks:=[(1000004,1000004),(1,1),(3,3),(4,4),(7,7),(11,11),(10256,10256)] }
theorem faces_loop {l : List Vx} {es : List Ed} (h : WF l es) {x : Dart} (hx : x∈allR l) (told : List Dart) (ht : ∀ y∈trD l x,y∉told) (v3 : LV) (o3 : Option Ob) (ho : (v3=.v (.sl (.tight 37) 1 [])∧o3=none)∨∃ fs : List (List Dart),v3=.s 3 0 fs.length∧o3=some (.arr false 37 1 (rowsBy rowF fs))) (D : List Dart) (k0 : Nat) (fn : LV) :
    E ((cs F).ring (faR v3 D.length k0 fn)) 1000000 f101_l1 ⟨asE l es x,upd (upd (upd (upd (upd (upd (upd Sx.h0 10256 (some (.map false true false (mapD told)))) 11 (some (.arr false 56 3 (rowsBy Dart.c D)))) 7 (some (.var false [.v (.sl (.tight 56) 3 [])]))) 4 (some (.var false [.m 10256]))) 3 o3) 1 (some (.var false [.v (.sl .shared 5 (rowsBy Vx.c l)),.v (.sl .shared 4 (rowsBy Ed.c es))]))) 1000004 (obD x)⟩ =
      some (.ret,⟨upd (upd (upd (upd (upd Sx.e0 22 (.v (.bool true))) 4 (LV.p 1000004 0)) 2 (.v (pcG l es))) 1 (.v (pcD x))) 0 .u,upd (upd (upd (upd (upd (upd (upd (upd Sx.h0 10448 (some (.arr false 56 3 (rowsBy Dart.c (trD l x))))) 10256 (some (.map false true false (mapD (told++trD l x))))) 11 (some (.arr false 56 3 (rowsBy Dart.c D)))) 7 (some (.var false [.s 10448 0 (trD l x).length]))) 4 (some (.var false [.m 10256]))) 3 o3) 1 (some (.var false [.v (.sl .shared 5 (rowsBy Vx.c l)),.v (.sl .shared 4 (rowsBy Ed.c es))]))) 1000004 (obD x)⟩):=by
  have oo:=phiD_oo h.pr
  have hlen : (allR l).length≤100:=by rw [h.many]; have:=h.le; omega
  obtain ⟨hk,hback⟩:=oo.per_lt hx hlen
  have hne : ∀ i,i < per (phiD l) 100 x→it (phiD l) (i+1) x≠x:=fun i hi => per_not hi
  have hmem : ∀ i,it (phiD l) i x∈allR l:=fun i => it_mem oo.mem hx i
  have htr : trD l x=firsts (phiD l) x (per (phiD l) 100 x+1):=rfl
  have hnd:=oo.orb_nd hx 100
  have hno : ∀ i,i≤per (phiD l) 100 x→it (phiD l) i x∉told++firsts (phiD l) x i:=fun i hi hm => by
    rcases List.mem_append.1 hm with hm | hm
    · refine ht _ ?_ hm
      rw [htr]; unfold firsts; rw [List.mem_map]
      exact ⟨i,by rw [List.mem_range]; omega,rfl⟩
    · unfold firsts at hm
      obtain ⟨j,hj,e⟩:=List.mem_map.1 hm
      rw [List.mem_range] at hj
      have h1 : j < (orb (phiD l) 100 x).length:=by rw [orb_len]; omega
      have h2 : i < (orb (phiD l) 100 x).length:=by rw [orb_len]; omega
      have:=(List.getElem_inj hnd (h₀:=h1) (h₁:=h2)).1 (by rw [orb_get,orb_get]; exact e)
      omega
  rw [htr]
  have hk100 : per (phiD l) 100 x < 100:=by omega
  clear hnd ht htr
  generalize per (phiD l) 100 x=n at *
  have key : ∀ i : Nat,call F 102 [.agg [.sl .shared 5 (rowsBy Vx.c l),.sl .shared 4 (rowsBy Ed.c es)],.agg [.int .i64 (it (phiD l) i x).e.s,.int .i64 (it (phiD l) i x).e.n,.int .i64 (it (phiD l) i x).d]]=some (.tup [dartT (it (phiD l) (i+1) x),.bool true]):=fun i => by
    have:=i_face_Phi h (it (phiD l) i x)
    rw [phT,if_pos (hmem i),dec_t (hmem i)] at this
    exact this
  have g:=loop_grow (C:=(cs F).ring (faR v3 D.length k0 fn)) (lo:=1000000) (b:=f101_b1) ⟨asE l es x,upd (upd (upd (upd (upd (upd (upd Sx.h0 10256 (some (.map false true false (mapD told)))) 11 (some (.arr false 56 3 (rowsBy Dart.c D)))) 7 (some (.var false [.v (.sl (.tight 56) 3 [])]))) 4 (some (.var false [.m 10256]))) 3 o3) 1 (some (.var false [.v (.sl .shared 5 (rowsBy Vx.c l)),.v (.sl .shared 4 (rowsBy Ed.c es))]))) 1000004 (obD x)⟩
    (fun i => ⟨asF l es x,upd (upd (upd (upd (upd (upd (upd (upd Sx.h0 10448 (some (.arr false 56 3 (rowsBy Dart.c (firsts (phiD l) x i))))) 10256 (some (.map false true false (mapD (told++firsts (phiD l) x i))))) 11 (some (.arr false 56 3 (rowsBy Dart.c D)))) 7 (some (.var false [.s 10448 0 (firsts (phiD l) x i).length]))) 4 (some (.var false [.m 10256]))) 3 o3) 1 (some (.var false [.v (.sl .shared 5 (rowsBy Vx.c l)),.v (.sl .shared 4 (rowsBy Ed.c es))]))) 1000004 (obD (it (phiD l) i x))⟩) n
    (r0:=(.ret,⟨upd (upd (upd (upd (upd Sx.e0 22 (.v (.bool true))) 4 (LV.p 1000004 0)) 2 (.v (pcG l es))) 1 (.v (pcD x))) 0 .u,upd (upd (upd (upd (upd (upd (upd (upd Sx.h0 10448 (some (.arr false 56 3 (rowsBy Dart.c (firsts (phiD l) x (n+1)))))) 10256 (some (.map false true false (mapD (told++firsts (phiD l) x (n+1)))))) 11 (some (.arr false 56 3 (rowsBy Dart.c D)))) 7 (some (.var false [.s 10448 0 (firsts (phiD l) x (n+1)).length]))) 4 (some (.var false [.m 10256]))) 3 o3) 1 (some (.var false [.v (.sl .shared 5 (rowsBy Vx.c l)),.v (.sl .shared 4 (rowsBy Ed.c es))]))) 1000004 (obD x)⟩))
    (r:=(.ret,⟨upd (upd (upd (upd (upd Sx.e0 22 (.v (.bool true))) 4 (LV.p 1000004 0)) 2 (.v (pcG l es))) 1 (.v (pcD x))) 0 .u,upd (upd (upd (upd (upd (upd (upd (upd Sx.h0 10448 (some (.arr false 56 3 (rowsBy Dart.c (firsts (phiD l) x (n+1)))))) 10256 (some (.map false true false (mapD (told++firsts (phiD l) x (n+1)))))) 11 (some (.arr false 56 3 (rowsBy Dart.c D)))) 7 (some (.var false [.s 10448 0 (firsts (phiD l) x (n+1)).length]))) 4 (some (.var false [.m 10256]))) 3 o3) 1 (some (.var false [.v (.sl .shared 5 (rowsBy Vx.c l)),.v (.sl .shared 4 (rowsBy Ed.c es))]))) 1000004 (obD x)⟩))
    ?_ (by simp) ?_ ?_ ?_ (by simp)
  · rw [show (if n = 0 then _ else _) = _ from ite_self _] at g
    exact g
  · intro h0
    subst h0
    have c:=key 0
    have e0 : it (phiD l) 0 x=x:=rfl
    have e1 : it (phiD l) (0+1) x=x:=hback
    have e2 : firsts (phiD l) x (0+1)=[x]:=rfl
    have hm:=hno 0 (Nat.le_refl _)
    rw [e0,e1] at c
    rw [e2]
    have e3 : firsts (phiD l) x 0=[]:=rfl
    rw [e0,e3,List.append_nil] at hm
    have u1:=upd_mapD x told
    rw [if_neg hm] at u1
    simp only [asE,faR,pcD,pcG,obD,dartT,keyL,Dart.c] at c u1 ⊢
    rcases ho with ⟨rfl,rfl⟩ | ⟨fs,rfl,rfl⟩
    · simp only [f101_b1,f85_ra,f85_rb,Nat.reduceLT,c,u1,go_sem,seval]
    · simp only [f101_b1,f85_ra,f85_rb,Nat.reduceLT,c,u1,go_sem,seval]
  · intro hn
    have c:=key 0
    have e0 : it (phiD l) 0 x=x:=rfl
    have e2 : firsts (phiD l) x 1=[x]:=rfl
    have hd:=dec_f (hne 0 hn)
    have hm:=hno 0 (Nat.zero_le _)
    rw [e0] at c
    rw [e2]
    rw [Nat.zero_add] at c hd
    have e3 : firsts (phiD l) x 0=[]:=rfl
    rw [e0,e3,List.append_nil] at hm
    have u1:=upd_mapD x told
    rw [if_neg hm] at u1
    generalize it (phiD l) 1 x=y at *
    simp only [asE,asF,faR,pcD,pcG,obD,dartT,keyL,Dart.c] at c u1 ⊢
    rcases ho with ⟨rfl,rfl⟩ | ⟨fs,rfl,rfl⟩
    · simp only [f101_b1,f85_ra,f85_rb,Nat.reduceLT,c,hd,u1,go_sem,seval]
    · simp only [f101_b1,f85_ra,f85_rb,Nat.reduceLT,c,hd,u1,go_sem,seval]
  · intro i hi0 hi
    have c:=key i
    have hd:=dec_f (hne i hi)
    have hl : (firsts (phiD l) x i).length=i:=firsts_len _ _ _
    have hm:=hno i (Nat.le_of_lt hi)
    rw [firsts_snoc,← List.append_assoc]
    have u1:=upd_mapD (it (phiD l) i x) (told++firsts (phiD l) x i)
    rw [if_neg hm] at u1
    generalize it (phiD l) (i+1) x=y at *
    generalize it (phiD l) i x=z at *
    generalize firsts (phiD l) x i=q at *
    have h5 : (q.length+1) * 24≤140737488355328:=by omega
    have h6:=rowsBy_dart (l:=q) z
    generalize told++q=tq at *
    simp only [asE,asF,faR,pcD,pcG,obD,dartT,keyL,Dart.c] at c u1 ⊢
    rcases ho with ⟨rfl,rfl⟩ | ⟨fs,rfl,rfl⟩
    · simp only [f101_b1,f85_ra,f85_rb,Nat.reduceLT,c,hd,u1,h5,h6,List.length_append,go_sem,seval]
    · simp only [f101_b1,f85_ra,f85_rb,Nat.reduceLT,c,hd,u1,h5,h6,List.length_append,go_sem,seval]
  · intro hn
    have c:=key n
    have hl : (firsts (phiD l) x n).length=n:=firsts_len _ _ _
    have hm:=hno n (Nat.le_refl _)
    rw [firsts_snoc,← List.append_assoc]
    have u1:=upd_mapD (it (phiD l) n x) (told++firsts (phiD l) x n)
    rw [if_neg hm] at u1
    rw [hback] at c
    generalize it (phiD l) n x=z at *
    generalize firsts (phiD l) x n=q at *
    have h5 : (q.length+1) * 24≤140737488355328:=by omega
    have h6:=rowsBy_dart (l:=q) z
    generalize told++q=tq at *
    simp only [asE,asF,faR,pcD,pcG,obD,dartT,keyL,Dart.c] at c u1 ⊢
    rcases ho with ⟨rfl,rfl⟩ | ⟨fs,rfl,rfl⟩
    · simp only [f101_b1,f85_ra,f85_rb,Nat.reduceLT,c,u1,h5,h6,List.length_append,go_sem,seval]
    · simp only [f101_b1,f85_ra,f85_rb,Nat.reduceLT,c,u1,h5,h6,List.length_append,go_sem,seval]
def facesTo (l : List Vx) (es : List Ed) (i : Nat) : List (List Dart) × List Dart:=((dartsE es).take i).foldl (stepF (phiD l)) ([],[])
theorem facesTo_succ (l : List Vx) (es : List Ed) {i : Nat} (h : i < (dartsE es).length) : facesTo l es (i+1)=stepF (phiD l) (facesTo l es i) (dartsE es)[i]:=by
  unfold facesTo; rw [List.take_succ_eq_append_getElem h,List.foldl_append]; rfl
theorem facesTo_all (l : List Vx) (es : List Ed) : (facesTo l es (dartsE es).length).1=facesD l es:=by
  unfold facesTo facesD; rw [List.take_length,stepF_fold]; rfl
theorem facesTo_told {l : List Vx} {es : List Ed} (h : WF l es) (i : Nat) : ∀ y∈(facesTo l es i).2,y∈allR l∧phiD l y∈(facesTo l es i).2:=by
  have hlen : (allR l).length≤100:=by rw [h.many]; have:=h.le; omega
  exact stepF_told (phiD_oo h.pr) hlen _ _ (fun x hx => (h.mem x).2 (List.mem_of_mem_take hx)) (fun y hy => by cases hy)
theorem facesTo_len (l : List Vx) (es : List Ed) : ∀ i,(facesTo l es i).1.length≤i∧(0 < i→i≤(dartsE es).length→0 < (facesTo l es i).1.length)
  | 0 => ⟨Nat.le_refl _,fun h => absurd h (Nat.lt_irrefl _)⟩
  | i + 1 => by
    have ih:=facesTo_len l es i
    by_cases hi : i < (dartsE es).length
    · rw [facesTo_succ l es hi]
      unfold stepF
      split
      · rename_i hm
        refine ⟨by omega,fun _ _ => ?_⟩
        cases i with
        | zero => cases hm
        | succ i => exact ih.2 (by omega) (by omega)
      · simp only [List.length_append, List.length_cons, List.length_nil]
        exact ⟨by omega,fun _ _ => by omega⟩
    · have e : facesTo l es (i+1)=facesTo l es i:=by
        unfold facesTo
        rw [List.take_of_length_le (by omega),List.take_of_length_le (by omega)]
      rw [e]
      exact ⟨by omega,fun _ h => by omega⟩
theorem fresh_face {l : List Vx} {es : List Ed} (h : WF l es) {x : Dart} (hx : x∈allR l) {told : List Dart} (ht : ∀ y∈told,y∈allR l∧phiD l y∈told) (hxt : x∉told) : ∀ y∈trD l x,y∉told:=fun y hy hyt => by
  have hlen : (allR l).length≤100:=by rw [h.many]; have:=h.le; omega
  have hcy:=(phiD_oo h.pr).orb_cy hx hlen
  exact hxt (hcy.within (S:=fun z => z∈told) (fun z hz => (ht z hz).2) hy hyt x (orb_self _ _ _))
theorem faces_l1 {l : List Vx} {es : List Ed} (h : WF l es) : E (cs F) 0 f85_l1 (⟨(upd (upd (upd (upd (upd (upd Sx.e0 13 (.v (.int .i64 (0)))) 12 (.v (.int .i64 (((dartsE es).length : Int))))) 11 (.s 11 0 (dartsE es).length)) 4 (.p 4 0)) 3 (.v (.sl (.tight 37) 1 []))) 1 (.p 1 0)),(upd (upd (upd (upd Sx.h0 10256 (some (.map false true false []))) 11 (some (.arr false 56 3 (rowsBy Dart.c (dartsE es))))) 4 (some (.var false [.m 10256]))) 1 (some (.var false [(.v (.sl .shared 5 (rowsBy Vx.c l))),(.v (.sl .shared 4 (rowsBy Ed.c es)))])))⟩ : St) =
    some (if (dartsE es).length=0 then (.exit 0,(⟨(upd Sx.e0 3 (.v (.sl (.tight 37) 1 []))),Sx.h0⟩ : St)) else (.exit 0,(⟨(upd Sx.e0 3 (.s 3 0 (facesD l es).length)),(upd Sx.h0 3 (some (.arr false 37 1 (rowsBy rowF (facesD l es)))))⟩ : St))):=by
  have hb : bodyOf (F 101)=some f101.body:=rfl
  have hle : (dartsE es).length≤80:=by rw [dartsE_len]; have:=h.le; omega
  have hw : (dartsE es).length≤9223372036854775807:=by omega
  have hall : ∀ i (hi : i < (dartsE es).length),(dartsE es)[i]∈allR l:=fun i hi => (h.mem _).2 (List.getElem_mem hi)
  rw [← facesTo_all l es]
  have l1 : E (cs F) 0 f85_l1 (⟨(upd (upd (upd (upd (upd (upd Sx.e0 13 (.v (.int .i64 (0)))) 12 (.v (.int .i64 (((dartsE es).length : Int))))) 11 (.s 11 0 (dartsE es).length)) 4 (.p 4 0)) 3 (.v (.sl (.tight 37) 1 []))) 1 (.p 1 0)),(upd (upd (upd (upd Sx.h0 10256 (some (.map false true false []))) 11 (some (.arr false 56 3 (rowsBy Dart.c (dartsE es))))) 4 (some (.var false [.m 10256]))) 1 (some (.var false [(.v (.sl .shared 5 (rowsBy Vx.c l))),(.v (.sl .shared 4 (rowsBy Ed.c es)))])))⟩ : St)=some (if (dartsE es).length=0 then (.exit 0,(⟨(upd Sx.e0 3 (.v (.sl (.tight 37) 1 []))),Sx.h0⟩ : St)) else (.exit 0,(⟨(upd Sx.e0 3 (.s 3 0 (facesTo l es (dartsE es).length).1.length)),(upd Sx.h0 3 (some (.arr false 37 1 (rowsBy rowF (facesTo l es (dartsE es).length).1))))⟩ : St))):=by
    refine loop_grow (b:=f85_b1) _ (fun q0 => (⟨(upd (upd (upd (upd (upd (upd Sx.e0 13 (.v (.int .i64 ((q0 : Int))))) 12 (.v (.int .i64 (((dartsE es).length : Int))))) 11 (.s 11 0 (dartsE es).length)) 4 (.p 4 0)) 3 (.s 3 0 (facesTo l es q0).1.length)) 1 (.p 1 0)),(upd (upd (upd (upd (upd Sx.h0 10256 (some (.map false true false (mapD (facesTo l es q0).2)))) 11 (some (.arr false 56 3 (rowsBy Dart.c (dartsE es))))) 4 (some (.var false [.m 10256]))) 3 (some (.arr false 37 1 (rowsBy rowF (facesTo l es q0).1)))) 1 (some (.var false [(.v (.sl .shared 5 (rowsBy Vx.c l))),(.v (.sl .shared 4 (rowsBy Ed.c es)))])))⟩ : St)) ((dartsE es).length) ?_ (by simp) ?_ ?_ ?_ (by simp)
    · intro h0
      simp only [f85_b1,show decide ((0 : Int) < ((dartsE es).length : Int))=false from decide_eq_false (by omega),go_sem,seval]
    · intro hn
      have e1 : facesTo l es 1=([trD l (dartsE es)[0]],trD l (dartsE es)[0]):=by
        have:=facesTo_succ l es (i:=0) hn
        rw [Nat.zero_add] at this
        rw [this]; unfold stepF
        have e0 : facesTo l es 0=([],[]):=rfl
        rw [e0,if_neg (by simp)]; rfl
      have d1 : decide ((0 : Int) < ((dartsE es).length : Int))=true:=decide_eq_true (by omega)
      have h1z : (0 : Int) < ((dartsE es).length : Int):=by omega
      have hx:=hall 0 hn
      have hg:=rowsBy_get Dart.c hn
      rw [e1]
      have cr:=i_round l es (dartsE es)[0]
      have al:=faces_loop h hx [] (fun y _ => by simp) (.v (.sl (.tight 37) 1 [])) none (.inl ⟨rfl,rfl⟩) (dartsE es) 0 (.v (.fn 101 [pcD (dartsE es)[0],pcG l es]))
      rw [List.nil_append] at al
      have e3 : rowsBy rowF [trD l (dartsE es)[0]]=[[.sl .shared 3 (rowsBy Dart.c (trD l (dartsE es)[0]))]]:=rfl
      rw [e3]
      generalize dartsE es=D at *
      generalize D[0]=x at *
      generalize trD l x=t at *
      have f1:=find_mapD x []
      simp only [asE,faR,pcD,pcG,obD,mapD,List.map_nil,keyL] at al cr f1 ⊢
      simp only [nat0,go_sem,seval] at al
      simp only [f85_b1,f101,hb,d1,h1z,hg,Dart.c,cr,al,f1,Nat.reduceLT,List.not_mem_nil,if_false,nat0,show IntKind.i64.wrap 1=1 from rfl,go_sem,seval]
    · intro i hi0 hi
      have h1z : (i : Int) < ((dartsE es).length : Int):=by omega
      have hx:=hall i hi
      have hg:=rowsBy_get Dart.c hi
      have ht:=facesTo_told h i
      have hfl:=facesTo_len l es i
      have hs:=facesTo_succ l es hi
      by_cases hm : (dartsE es)[i]∈(facesTo l es i).2
      · have e1 : facesTo l es (i + 1) = facesTo l es i := by rw [hs]; unfold stepF; rw [if_pos hm]
        rw [e1]
        generalize dartsE es=D at *
        generalize facesTo l es i=q at *
        have f1:=find_mapD D[i] q.2
        rw [if_pos hm] at f1
        simp only [keyL] at f1
        simp only [f85_b1,dec_lt hi,h1z,hg,Dart.c,f1,wrap_succ hi hw,go_sem,seval]
      · have e1 : facesTo l es (i + 1) = ((facesTo l es i).1 ++ [trD l (dartsE es)[i]], (facesTo l es i).2 ++ trD l (dartsE es)[i]) := by rw [hs]; unfold stepF; rw [if_neg hm]; rfl
        rw [e1]
        have cr:=i_round l es (dartsE es)[i]
        have al:=faces_loop h hx (facesTo l es i).2 (fresh_face h hx ht hm) (.s 3 0 (facesTo l es i).1.length) (some (.arr false 37 1 (rowsBy rowF (facesTo l es i).1))) (.inr ⟨_,rfl,rfl⟩) (dartsE es) i (.v (.fn 101 [pcD (dartsE es)[i],pcG l es]))
        have hfl2 : (facesTo l es i).1.length≤80:=by omega
        generalize dartsE es=D at *
        generalize facesTo l es i=q at *
        obtain ⟨fs,told⟩:=q
        simp only at hfl2 hm al ⊢
        generalize trD l D[i]=t at *
        have f1:=find_mapD D[i] told
        rw [if_neg hm] at f1
        have e3 : rowsBy rowF fs++[[.sl .shared 3 (rowsBy Dart.c t)]]=rowsBy rowF (fs++[t]):=rowsBy_snoc rowF fs t
        have h5 : (fs.length+1) * 24≤140737488355328:=by omega
        generalize D[i]=x at *
        simp only [asE,faR,pcD,pcG,obD,keyL] at al cr f1 ⊢
        simp only [f85_b1,f101,hb,dec_lt hi,h1z,hg,Dart.c,cr,al,f1,Nat.reduceLT,h5,e3,wrap_succ hi hw,List.length_append,go_sem,seval]
    · intro hn
      simp only [f85_b1,dec_ge (Nat.le_refl (dartsE es).length),go_sem,seval]
  exact l1
theorem facesD_nil {l : List Vx} {es : List Ed} (h : (dartsE es).length=0) : facesD l es=[]:=by
  unfold facesD; rw [List.eq_nil_of_length_eq_zero h]; rfl
theorem i_Faces {l : List Vx} {es : List Ed} (h : WF l es) : call F 85 [.agg [.sl .shared 5 (rowsBy Vx.c l),.sl .shared 4 (rowsBy Ed.c es)]]=some (.sl (.own 37) 1 (rowsBy rowF (facesD l es))):=by
  have cd:=i_face_Darts (.sl .shared 5 (rowsBy Vx.c l)) es (by have:=h.le; omega)
  have fl:=faces_l1 h
  have h0:=facesD_nil (l:=l) (es:=es)
  generalize dartsE es=D at *
  generalize facesD l es=fs at *
  rw [call_code F (show F 85=some (.code f85) from rfl)]
  by_cases hz : D.length=0
  · rw [if_pos hz] at fl
    have hD:=List.eq_nil_of_length_eq_zero hz
    subst hD
    rw [h0 rfl]
    simp only [rowsBy,List.length_nil,nat0] at cd fl
    simp only [f85,cd,fl,rowsBy,nat0,go_sem,seval]
  · rw [if_neg hz] at fl
    simp only [f85,cd,fl,go_sem,seval]
theorem firsts_more {f : Dart→Dart} {x : Dart} (i : Nat) : firsts f x 1=[x]∧(firsts f x (i+1)).length=i+1:=⟨rfl,firsts_len _ _ _⟩
theorem i_r05_Trace {l : List Vx} {es : List Ed} (h : WF l es) (x : Dart) : call F 90 [.agg [.sl .shared 5 (rowsBy Vx.c l),.sl .shared 4 (rowsBy Ed.c es)],.agg [.int .i64 x.e.s,.int .i64 x.e.n,.int .i64 x.d]]=some (.sl (.own 56) 3 (rowsBy Dart.c (trT l x))):=by
  have cp:=i_r05_Phi h x
  by_cases hx : x∈allR l
  · rw [phT, if_pos hx, dec_t hx] at cp
    have oo:=phiD_oo h.pr
    have hlen : (allR l).length≤80:=by rw [h.many]; have:=h.le; omega
    obtain ⟨hk,hback⟩:=oo.per_lt hx (n:=100) (by omega)
    have hne : ∀ i,i < per (phiD l) 100 x→it (phiD l) (i+1) x≠x:=fun i hi => per_not hi
    have hmem : ∀ i,it (phiD l) i x∈allR l:=fun i => it_mem oo.mem hx i
    have htr : trT l x=firsts (phiD l) x (per (phiD l) 100 x+1):=by unfold trT; rw [if_pos hx]; rfl
    rw [htr]
    generalize per (phiD l) 100 x=n at *
    have key : ∀ i : Nat,call F 97 [.agg [.sl .shared 5 (rowsBy Vx.c l),.sl .shared 4 (rowsBy Ed.c es)],.agg [.int .i64 (it (phiD l) i x).e.s,.int .i64 (it (phiD l) i x).e.n,.int .i64 (it (phiD l) i x).d]]=some (.tup [dartT (it (phiD l) (i+1) x),.bool true]):=fun i => by
      have:=i_r05_Phi h (it (phiD l) i x)
      rw [phT,if_pos (hmem i),dec_t (hmem i)] at this
      exact this
    have e0 : phiD l x=it (phiD l) (0+1) x:=rfl
    rw [e0] at cp
    have l1 : E (cs F) 0 f90_l1 (⟨(upd (upd (upd (upd Sx.e0 6 (.p 6 0)) 5 (.s 5 0 (firsts (phiD l) x (0+1)).length)) 3 (.p 3 0)) 2 (.p 2 0)),(upd (upd (upd (upd Sx.h0 6 (some (.var false [(.v (.int .i64 ((it (phiD l) (0+1) x).e.s))),(.v (.int .i64 ((it (phiD l) (0+1) x).e.n))),(.v (.int .i64 ((it (phiD l) (0+1) x).d)))]))) 5 (some (.arr false 56 3 (rowsBy Dart.c (firsts (phiD l) x (0+1)))))) 3 (some (.var false [(.v (.int .i64 (x.e.s))),(.v (.int .i64 (x.e.n))),(.v (.int .i64 (x.d)))]))) 2 (some (.var false [(.v (.sl .shared 5 (rowsBy Vx.c l))),(.v (.sl .shared 4 (rowsBy Ed.c es)))])))⟩ : St)=some (.exit 0,(⟨(upd Sx.e0 5 (.s 5 0 (firsts (phiD l) x (n+1)).length)),(upd Sx.h0 5 (some (.arr false 56 3 (rowsBy Dart.c (firsts (phiD l) x (n+1))))))⟩ : St)):=by
      refine loop_to (b:=f90_b1) (fun q0 => (⟨(upd (upd (upd (upd Sx.e0 6 (.p 6 0)) 5 (.s 5 0 (firsts (phiD l) x (q0+1)).length)) 3 (.p 3 0)) 2 (.p 2 0)),(upd (upd (upd (upd Sx.h0 6 (some (.var false [(.v (.int .i64 ((it (phiD l) (q0+1) x).e.s))),(.v (.int .i64 ((it (phiD l) (q0+1) x).e.n))),(.v (.int .i64 ((it (phiD l) (q0+1) x).d)))]))) 5 (some (.arr false 56 3 (rowsBy Dart.c (firsts (phiD l) x (q0+1)))))) 3 (some (.var false [(.v (.int .i64 (x.e.s))),(.v (.int .i64 (x.e.n))),(.v (.int .i64 (x.d)))]))) 2 (some (.var false [(.v (.sl .shared 5 (rowsBy Vx.c l))),(.v (.sl .shared 4 (rowsBy Ed.c es)))])))⟩ : St)) (n) ?_ ?_ (by simp)
      · intro i hi
        have c:=key (i+1)
        have hd:=hne i hi
        have hl : (firsts (phiD l) x (i+1)).length=i+1:=firsts_len _ _ _
        rw [firsts_snoc (phiD l) x (i+1)]
        generalize it (phiD l) (i+1+1) x=y at *
        generalize it (phiD l) (i+1) x=z at *
        generalize firsts (phiD l) x (i+1)=q at *
        have h5 : (q.length+1) * 24≤140737488355328:=by omega
        have h6:=rowsBy_dart (l:=q) z
        have h7 : decide ((q.length : Int) < 82)=true:=decide_eq_true (by omega)
        simp only [dartT] at c ⊢
        simp only [f90_b1,c,dec_f hd,h5,h6,h7,List.length_append,go_sem,seval]
      · rw [hback]
        simp only [f90_b1,go_sem,seval]
    have e1:=(firsts_more (f:=phiD l) (x:=x) 0).1
    rw [Nat.zero_add] at l1 cp
    rw [e1] at l1
    generalize firsts (phiD l) x (n+1)=t at *
    generalize it (phiD l) 1 x=y at *
    simp only [dartT,List.length_cons,List.length_nil,Nat.zero_add] at cp l1
    rw [call_code F (show F 90=some (.code f90) from rfl)]
    simp only [f90,cp,l1,go_sem,seval]
  · rw [phT, if_neg hx, dec_f hx] at cp
    rw [trT,if_neg hx]
    simp only [dartT,Dart0,ID0,rowsBy] at cp ⊢
    rw [call_code F (show F 90=some (.code f90) from rfl)]
    simp only [f90,cp,rowsBy,go_sem,seval]
theorem stepF_nd {f : Dart→Dart} {D : List Dart} (oo : OneOne f D) (hn : D.length≤100) : ∀ (xs : List Dart) (q : List (List Dart) × List Dart),(∀ x∈xs,x∈D)→(∀ y∈q.2,y∈D∧f y∈q.2)→q.2.Nodup→(xs.foldl (stepF f) q).2.Nodup
  | [],q,_,_,h => h
  | x :: xs, q, hx, h, hd => by
    rw [List.foldl_cons]
    have h1:=stepF_told oo hn [x] q (fun y hy => hx y (by simp at hy; simp [hy])) h
    refine stepF_nd oo hn xs _ (fun y hy => hx y (by simp [hy])) h1 ?_
    unfold stepF
    split
    · exact hd
    · rename_i hm
      have hxD:=hx x (by simp)
      have hcy:=oo.orb_cy hxD hn
      show (q.2++orb f 100 x).Nodup
      rw [List.nodup_append]
      refine ⟨hd,oo.orb_nd hxD 100,fun y hy z hz e => ?_⟩
      subst e
      exact hm (hcy.within (S:=fun z => z∈q.2) (fun z hz => (h z hz).2) hz hy x (orb_self _ _ _))
theorem facesTo_tlen {l : List Vx} {es : List Ed} (h : WF l es) (i : Nat) : (facesTo l es i).2.length≤80:=by
  have hlen : (allR l).length≤80:=by rw [h.many]; have:=h.le; omega
  have hnd : (facesTo l es i).2.Nodup:=stepF_nd (phiD_oo h.pr) (by omega) _ _ (fun x hx => (h.mem x).2 (List.mem_of_mem_take hx)) (fun y hy => by cases hy) (by simp)
  have:=nodup_sub hnd fun y hy => (facesTo_told h i y hy).1
  omega
theorem i_r05_Faces {l : List Vx} {es : List Ed} (h : WF l es) : call F 73 [.agg [.sl .shared 5 (rowsBy Vx.c l),.sl .shared 4 (rowsBy Ed.c es)]]=some (.sl (.own 37) 1 (rowsBy rowF (facesD l es))):=by
  have cd:=i_r05_Darts (.sl .shared 5 (rowsBy Vx.c l)) es (by have:=h.le; omega)
  have hle : (dartsE es).length≤80:=by rw [dartsE_len]; have:=h.le; omega
  have hw : (dartsE es).length≤9223372036854775807:=by omega
  have hall : ∀ i (hi : i < (dartsE es).length),(dartsE es)[i]∈allR l:=fun i hi => (h.mem _).2 (List.getElem_mem hi)
  have htl:=facesTo_tlen h
  rw [← facesTo_all l es]
  have l1 : E (cs F) 0 f73_l1 (⟨(upd (upd (upd (upd (upd Sx.e0 6 (.v (.int .i64 (0)))) 5 (.s 5 0 (dartsE es).length)) 4 (.s 4 0 (facesTo l es 0).2.length)) 3 (.s 3 0 (facesTo l es 0).1.length)) 1 (.p 1 0)),(upd (upd (upd (upd Sx.h0 5 (some (.arr false 56 3 (rowsBy Dart.c (dartsE es))))) 4 (some (.arr false 56 3 (rowsBy Dart.c (facesTo l es 0).2)))) 3 (some (.arr false 37 1 (rowsBy rowF (facesTo l es 0).1)))) 1 (some (.var false [(.v (.sl .shared 5 (rowsBy Vx.c l))),(.v (.sl .shared 4 (rowsBy Ed.c es)))])))⟩ : St)=some (.exit 0,(⟨(upd Sx.e0 3 (.s 3 0 (facesTo l es (dartsE es).length).1.length)),(upd Sx.h0 3 (some (.arr false 37 1 (rowsBy rowF (facesTo l es (dartsE es).length).1))))⟩ : St)):=by
    refine loop_to (b:=f73_b1) (fun q0 => (⟨(upd (upd (upd (upd (upd Sx.e0 6 (.v (.int .i64 ((q0 : Int))))) 5 (.s 5 0 (dartsE es).length)) 4 (.s 4 0 (facesTo l es q0).2.length)) 3 (.s 3 0 (facesTo l es q0).1.length)) 1 (.p 1 0)),(upd (upd (upd (upd Sx.h0 5 (some (.arr false 56 3 (rowsBy Dart.c (dartsE es))))) 4 (some (.arr false 56 3 (rowsBy Dart.c (facesTo l es q0).2)))) 3 (some (.arr false 37 1 (rowsBy rowF (facesTo l es q0).1)))) 1 (some (.var false [(.v (.sl .shared 5 (rowsBy Vx.c l))),(.v (.sl .shared 4 (rowsBy Ed.c es)))])))⟩ : St)) ((dartsE es).length) ?_ ?_ (by simp)
    · intro i hi
      have h1z : (i : Int) < ((dartsE es).length : Int):=by omega
      have hx:=hall i hi
      have hg:=rowsBy_get Dart.c hi
      have hfl:=(facesTo_len l es i).1
      have hs:=facesTo_succ l es hi
      have ht:=htl i
      have ci:=i_r03_Index (facesTo l es i).2 (dartsE es)[i] (Fits.of (by omega))
      by_cases hm : (dartsE es)[i]∈(facesTo l es i).2
      · have e1 : facesTo l es (i + 1) = facesTo l es i := by rw [hs]; unfold stepF; rw [if_pos hm]
        rw [e1]
        rw [idx_pos hm] at ci
        have d3 : decide ((((facesTo l es i).2.idxOf (dartsE es)[i] : Nat) : Int) ≥ 0)=true:=decide_eq_true (by omega)
        generalize (facesTo l es i).2.idxOf (dartsE es)[i]=kk at *
        generalize dartsE es=D at *
        generalize facesTo l es i=q at *
        simp only [f73_b1,dec_lt hi,h1z,hg,Dart.c,ci,d3,wrap_succ hi hw,go_sem,seval]
      · have e1 : facesTo l es (i + 1) = ((facesTo l es i).1 ++ [trD l (dartsE es)[i]], (facesTo l es i).2 ++ trD l (dartsE es)[i]) := by rw [hs]; unfold stepF; rw [if_neg hm]; rfl
        rw [e1]
        rw [idx_neg hm] at ci
        have ct:=i_r05_Trace h (dartsE es)[i]
        rw [trT,if_pos hx] at ct
        have hts:=trT_fits h (dartsE es)[i]
        rw [trT,if_pos hx] at hts
        have hfl2 : (facesTo l es i).1.length≤80:=by omega
        generalize dartsE es=D at *
        generalize facesTo l es i=q at *
        obtain ⟨fs,told⟩:=q
        simp only at hfl2 hm ci ht ⊢
        generalize trD l D[i]=t at *
        have e3 : rowsBy rowF fs++[[.sl .shared 3 (rowsBy Dart.c t)]]=rowsBy rowF (fs++[t]):=rowsBy_snoc rowF fs t
        have h5 : (fs.length+1) * 24≤140737488355328:=by omega
        have h6 : (told.length+t.length) * 24≤140737488355328:=by omega
        simp only [f73_b1,dec_lt hi,h1z,hg,Dart.c,ci,ct,h5,h6,e3,wrap_succ hi hw,List.length_append,go_sem,seval]
    · simp only [f73_b1,dec_ge (Nat.le_refl (dartsE es).length),go_sem,seval]
  have e0 : facesTo l es 0=([],[]):=rfl
  rw [e0] at l1
  generalize (facesTo l es (dartsE es).length).1=fs at *
  generalize dartsE es=D at *
  simp only [rowsBy,List.length_nil] at l1
  rw [call_code F (show F 73=some (.code f73) from rfl)]
  simp only [f73,cd,l1,go_sem,seval]
end Go.Proofs.Ytcecojdeljbjoaa.Sx
namespace Go.Proofs.Ytcecojdeljbjoaa.Sx
def spr1 (f : List Nat) (e : Nat × Nat) : List Nat:=(f.set e.1 (min (fat f e.1) (fat f e.2))).set e.2 (min (fat f e.1) (fat f e.2))
def spr (es : List (Nat × Nat)) (f : List Nat) : List Nat:=es.foldl spr1 f
def sprK (es : List (Nat × Nat)) (f : List Nat) : Nat→List Nat
  | 0 => f
  | k+1 => spr es (sprK es f k)
theorem spr1_len (f : List Nat) (e : Nat × Nat) : (spr1 f e).length=f.length:=by unfold spr1; rw [List.length_set,List.length_set]
theorem spr_len : ∀ (es : List (Nat × Nat)) (f : List Nat),(spr es f).length=f.length
  | [],_ => rfl
  | e :: es, f => by
    show (spr es (spr1 f e)).length=_
    rw [spr_len es,spr1_len]
theorem spr1_at {f : List Nat} {e : Nat × Nat} (h1 : e.1 < f.length) (h2 : e.2 < f.length) (u : Nat) : fat (spr1 f e) u=if u=e.1∨u=e.2 then min (fat f e.1) (fat f e.2) else fat f u:=by
  unfold spr1
  rw [fat_set (by rw [List.length_set]; exact h2),fat_set h1]
  by_cases a : u=e.2
  · rw [if_pos a,if_pos (.inr a)]
  · rw [if_neg a]
    by_cases b : u=e.1
    · rw [if_pos b,if_pos (.inl b)]
    · rw [if_neg b,if_neg (by simp [a,b])]
theorem spr1_le {f : List Nat} {e : Nat × Nat} (h1 : e.1 < f.length) (h2 : e.2 < f.length) (u : Nat) : fat (spr1 f e) u≤fat f u:=by
  rw [spr1_at h1 h2]
  split
  · rename_i h
    rcases h with rfl | rfl
    · exact Nat.min_le_left _ _
    · exact Nat.min_le_right _ _
  · exact Nat.le_refl _
def InE (n : Nat) (es : List (Nat × Nat)) : Prop:=∀ e∈es,e.1 < n∧e.2 < n
theorem spr_le : ∀ {es : List (Nat × Nat)} {f : List Nat},InE f.length es→∀ u,fat (spr es f) u≤fat f u
  | [],_,_,_ => Nat.le_refl _
  | e :: es, f, h, u => by
    have he:=h e (by simp)
    have:=spr_le (es:=es) (f:=spr1 f e) (fun x hx => by rw [spr1_len]; exact h x (by simp [hx])) u
    exact Nat.le_trans this (spr1_le he.1 he.2 u)
theorem spr_append (s t : List (Nat × Nat)) (f : List Nat) : spr (s++t) f=spr t (spr s f):=List.foldl_append
theorem spr_edge {es : List (Nat × Nat)} {f : List Nat} (h : InE f.length es) {e : Nat × Nat} (he : e∈es) : fat (spr es f) e.1≤fat f e.2∧fat (spr es f) e.2≤fat f e.1:=by
  obtain ⟨s,t,rfl⟩:=List.append_of_mem he
  have hs : InE f.length s:=fun x hx => h x (by simp [hx])
  have ht : InE f.length t:=fun x hx => h x (by simp [hx])
  have h0:=h e (by simp)
  rw [spr_append]
  show fat (spr t (spr1 (spr s f) e)) e.1≤_∧fat (spr t (spr1 (spr s f) e)) e.2≤_
  have hl:=spr_len s f
  have k:=fun u => spr_le (es:=t) (f:=spr1 (spr s f) e) (by rw [spr1_len,hl]; exact ht) u
  have k1:=k e.1
  have k2:=k e.2
  rw [spr1_at (by rw [hl]; exact h0.1) (by rw [hl]; exact h0.2),if_pos (.inl rfl)] at k1
  rw [spr1_at (by rw [hl]; exact h0.1) (by rw [hl]; exact h0.2),if_pos (.inr rfl)] at k2
  have a1:=spr_le hs e.1
  have a2:=spr_le hs e.2
  omega
structure SprI (R : Nat→Nat→Prop) (n : Nat) (f : List Nat) : Prop where
  len : f.length=n
  con : ∀ u,u < n→Con R u (fat f u)
section
variable {R : Nat→Nat→Prop} {n : Nat}
theorem SprI.start (R : Nat→Nat→Prop) (n : Nat) : SprI R n (List.range n):=by
  refine ⟨List.length_range,fun u hu => ?_⟩
  rw [fat_at (by rw [List.length_range]; exact hu),List.getElem_range]
  exact .refl _
theorem SprI.one (hs : ∀ u v,R u v→R v u) {f : List Nat} (h : SprI R n f) {e : Nat × Nat} (h1 : e.1 < n) (h2 : e.2 < n) (hr : R e.1 e.2) : SprI R n (spr1 f e):=by
  refine ⟨by rw [spr1_len]; exact h.len,fun u hu => ?_⟩
  rw [spr1_at (by rw [h.len]; exact h1) (by rw [h.len]; exact h2)]
  have c1:=h.con e.1 h1
  have c2:=h.con e.2 h2
  have c12 : Con R e.1 e.2:=.one hr
  have c21 : Con R e.2 e.1:=.one (hs _ _ hr)
  split
  · rename_i hu
    rcases Nat.le_total (fat f e.1) (fat f e.2) with hle | hle
    · rw [Nat.min_eq_left hle]
      rcases hu with rfl | rfl
      · exact c1
      · exact c21.trans c1
    · rw [Nat.min_eq_right hle]
      rcases hu with rfl | rfl
      · exact c12.trans c2
      · exact c2
  · exact h.con u hu
theorem SprI.round (hs : ∀ u v,R u v→R v u) : ∀ {es : List (Nat × Nat)} {f : List Nat},SprI R n f→(∀ e∈es,e.1 < n∧e.2 < n∧R e.1 e.2)→SprI R n (spr es f)
  | [],_,h,_ => h
  | e :: es, f, h, he => by
    obtain ⟨h1,h2,h3⟩:=he e (by simp)
    have k : SprI R n (spr1 f e):=h.one hs h1 h2 h3
    exact SprI.round (f:=spr1 f e) hs k fun x hx => he x (by simp [hx])
theorem countP_lt {α : Type} {p q : α→Bool} : ∀ {l : List α},(∀ u∈l,p u=true→q u=true)→(∃ a∈l,p a=false∧q a=true)→l.countP p < l.countP q
  | [],_,h => by obtain ⟨a,ha,_⟩:=h; cases ha
  | x :: l, h, he => by
    have h0 : l.countP p≤l.countP q:=List.countP_mono_left fun u hu => h u (by simp [hu])
    have hx:=h x (by simp)
    obtain ⟨a,ha,h1,h2⟩:=he
    rcases List.mem_cons.1 ha with rfl | ha
    · rw [List.countP_cons,List.countP_cons,h1,h2]; simp; omega
    · have := countP_lt (l := l) (fun u hu => h u (by simp [hu])) ⟨a, ha, h1, h2⟩
      rw [List.countP_cons,List.countP_cons]
      cases hp : p x with
      | false => simp; omega
      | true => rw [hx hp]; simp; omega
theorem Con.edge {P : Nat→Prop} {u w : Nat} (h : Con R u w) (hu : P u) (hw : ¬ P w) : ∃ a b,R a b∧Con R u a∧P a∧¬ P b:=by
  induction h with
  | refl => exact absurd hu hw
  | @step u v w a _ ih =>
    by_cases hv : P v
    · obtain ⟨x, y, h1, h2, h3, h4⟩ := ih hv hw
      exact ⟨x,y,h1,.step a h2,h3,h4⟩
    · exact ⟨u,v,a,.refl _,hu,hv⟩
theorem spr_all (hs : ∀ u v,R u v→R v u) (hb : ∀ u v,R u v→u < n∧v < n) {es : List (Nat × Nat)} (he : ∀ e∈es,e.1 < n∧e.2 < n∧R e.1 e.2) (hr : ∀ u v,R u v→(u,v)∈es∨(v,u)∈es)
    {lab : Nat→Nat} (hl : Lab R n lab) : sprK es (List.range n) n=(List.range n).map lab:=by
  have hin : InE n es:=fun e h => ⟨(he e h).1,(he e h).2.1⟩
  have hinv : ∀ k,SprI R n (sprK es (List.range n) k):=by
    intro k
    induction k with
    | zero => exact SprI.start R n
    | succ k ih => exact ih.round hs he
  have hge : ∀ k u,u < n→lab u≤fat (sprK es (List.range n) k) u:=fun k u hu => hl.le u hu _ ((hinv k).con u hu)
  have hdown : ∀ k u,fat (sprK es (List.range n) (k+1)) u≤fat (sprK es (List.range n) k) u:=fun k u => spr_le (by rw [(hinv k).len]; exact hin) u
  have hroot : ∀ k u,u < n→lab u=u→fat (sprK es (List.range n) k) u=u:=by
    intro k
    induction k with
    | zero =>
      intro u hu _
      show fat (List.range n) u=u
      rw [fat_at (by rw [List.length_range]; exact hu),List.getElem_range]
    | succ k ih =>
      intro u hu hlu
      have h1:=hdown k u
      have h2:=hge (k+1) u hu
      have h3:=ih u hu hlu
      omega
  have hgood : ∀ k,(∀ u,u < n→fat (sprK es (List.range n) k) u=lab u)∨k≤(List.range n).countP fun u => decide (fat (sprK es (List.range n) k) u=lab u):=by
    intro k
    induction k with
    | zero => exact .inr (Nat.zero_le _)
    | succ k ih =>
      rcases ih with ih | ih
      · refine .inl fun u hu => ?_
        have h1:=hdown k u
        have h2:=hge (k+1) u hu
        have h3:=ih u hu
        omega
      · by_cases hall : ∀ u, u < n → fat (sprK es (List.range n) k) u = lab u
        · refine .inl fun u hu => ?_
          have h1:=hdown k u
          have h2:=hge (k+1) u hu
          have h3:=hall u hu
          omega
        · right
          obtain ⟨u,hu⟩:=Classical.not_forall.1 hall
          obtain ⟨hun,hu⟩:=Classical.not_imp.1 hu
          have hlu:=hl.self hun
          have hidem:=hl.idem hs hun
          obtain ⟨a,b,h1,h2,h3,h4⟩:=Con.edge (P:=fun v => fat (sprK es (List.range n) k) v=lab v) ((hl.con u hun).symm hs) (by
            show fat _ (lab u)=lab (lab u)
            rw [hidem]; exact hroot k _ (by omega) hidem) hu
          obtain ⟨ha,hbn⟩:=hb a b h1
          have hlab : lab a=lab b:=(hl.eq hs ha hbn).1 (.one h1)
          have hnew : fat (sprK es (List.range n) (k+1)) b=lab b:=by
            have h5:=hge (k+1) b hbn
            have h3 : fat (sprK es (List.range n) k) a=lab a:=h3
            have : fat (sprK es (List.range n) (k+1)) b≤fat (sprK es (List.range n) k) a:=by
              rcases hr a b h1 with h | h
              · exact (spr_edge (by rw [(hinv k).len]; exact hin) h).2
              · exact (spr_edge (by rw [(hinv k).len]; exact hin) h).1
            omega
          have:=countP_lt (l:=List.range n) (p:=fun u => decide (fat (sprK es (List.range n) k) u=lab u)) (q:=fun u => decide (fat (sprK es (List.range n) (k+1)) u=lab u)) (fun v hv hp => by
            have hvn:=List.mem_range.1 hv
            have hp:=of_decide_eq_true hp
            refine decide_eq_true ?_
            have h1:=hdown k v
            have h2:=hge (k+1) v hvn
            omega) ⟨b,List.mem_range.2 hbn,decide_eq_false h4,decide_eq_true hnew⟩
          omega
  have hn : ∀ u,u < n→fat (sprK es (List.range n) n) u=lab u:=by
    rcases hgood n with h | h
    · exact h
    · intro u hu
      have hle:=List.countP_le_length (p:=fun u => decide (fat (sprK es (List.range n) n) u=lab u)) (l:=List.range n)
      rw [List.length_range] at hle
      have e : (List.range n).countP (fun u => decide (fat (sprK es (List.range n) n) u=lab u))=(List.range n).length:=by rw [List.length_range]; omega
      exact of_decide_eq_true (List.countP_eq_length.1 e u (List.mem_range.2 hu))
  refine List.ext_getElem (by rw [(hinv n).len,List.length_map,List.length_range]) fun i h1 h2 => ?_
  have hin : i < n:=by rw [(hinv n).len] at h1; exact h1
  rw [List.getElem_map,List.getElem_range,← hn i hin,fat_at h1]
end
end Go.Proofs.Ytcecojdeljbjoaa.Sx
namespace Go.Proofs.Ytcecojdeljbjoaa.Sx
open Go
/-! ### places -/
def plV (l : List Vx) (x : ID) : Nat:=l.findIdx fun v => decide (v.id=x)
def dpl (l : List Vx) (x : Dart) : Nat:=l.findIdx fun v => decide (x∈v.ring)
theorem plV_cases (l : List Vx) (x : ID) : (plV l x=l.length∧x∉l.map Vx.id)∨(plV l x < l.length∧idAt l (plV l x)=x):=by
  rcases findIdx_cases (fun v : Vx => decide (v.id=x)) l with h | ⟨h,k⟩
  · refine .inl ⟨h, fun hx => ?_⟩
    obtain ⟨v,hv,rfl⟩:=List.mem_map.1 hx
    obtain ⟨i,hi,rfl⟩:=List.mem_iff_getElem.1 hv
    have:=findIdx_not (p:=fun v : Vx => decide (v.id=l[i].id)) (l:=l) (i:=i) (by omega) hi
    simp at this
  · refine .inr ⟨h, ?_⟩
    show idAt l (l.findIdx fun v => decide (v.id=x))=x
    rw [idAt_lt h]
    exact of_decide_eq_true k
theorem idAt_inj {l : List Vx} (hn : (l.map Vx.id).Nodup) {i j : Nat} (hi : i < l.length) (hj : j < l.length) (h : idAt l i=idAt l j) : i=j:=by
  rw [idAt_lt hi,idAt_lt hj] at h
  have h1 : (l.map Vx.id)[i]'(by rw [List.length_map]; exact hi)=(l.map Vx.id)[j]'(by rw [List.length_map]; exact hj):=by rw [List.getElem_map,List.getElem_map]; exact h
  exact (List.getElem_inj hn).1 h1
theorem idAt_mem {l : List Vx} {i : Nat} (hi : i < l.length) : idAt l i∈l.map Vx.id:=by
  rw [idAt_lt hi]; exact List.mem_map.2 ⟨_,List.getElem_mem hi,rfl⟩
theorem plV_at {l : List Vx} (hn : (l.map Vx.id).Nodup) {i : Nat} (hi : i < l.length) : plV l (idAt l i)=i:=by
  rcases plV_cases l (idAt l i) with ⟨_,h⟩ | ⟨h,k⟩
  · exact absurd (idAt_mem hi) h
  · exact idAt_inj hn h hi k
theorem WF.labok {l : List Vx} {es : List Ed} (h : WF l es) : LabOk l:=by
  refine ⟨⟨by have:=h.lv; omega,fun v hv => ?_⟩,h.nd,h.pr.oth,fun x hx => ?_⟩
  · have h1 : v.ring.length ≤ (allR l).length := List.Sublist.length_le (List.sublist_flatten_of_mem (List.mem_map.2 ⟨v, hv, rfl⟩))
    have h2:=h.many
    have h3:=h.le
    omega
  · obtain ⟨e, _, h1 | h1⟩ := dartsE_mem.1 ((h.mem x).1 hx)
    · exact .inl (by rw [h1])
    · exact .inr (by rw [h1])
/-! ### the reference's rounds -/
def edgP (l : List Vx) (es : List Ed) : List (Nat × Nat):=es.map fun e => (dpl l ⟨e.id,0⟩,dpl l ⟨e.id,1⟩)
theorem dpl_at {l : List Vx} {x : Dart} (hx : x∈allR l) : dpl l x < l.length∧x∈ringAt l (dpl l x):=by
  rcases findIdx_cases (fun v : Vx => decide (x∈v.ring)) l with h | ⟨h,k⟩
  · obtain ⟨v, hv, hxv⟩ := (allR_mem l x).1 hx
    obtain ⟨i,hi,rfl⟩:=List.mem_iff_getElem.1 hv
    have:=findIdx_not (p:=fun v : Vx => decide (x∈v.ring)) (l:=l) (i:=i) (by omega) hi
    simp at this
    exact absurd hxv this
  · refine ⟨h, ?_⟩
    show x∈ringAt l (l.findIdx fun v => decide (x∈v.ring))
    rw [ringAt_lt h]
    exact of_decide_eq_true k
theorem WF.edge_in {l : List Vx} {es : List Ed} (h : WF l es) {e : Ed} (he : e∈es) : (⟨e.id,0⟩ : Dart)∈allR l∧(⟨e.id,1⟩ : Dart)∈allR l :=
  ⟨(h.mem _).2 (dartsE_mem.2 ⟨e,he,.inl rfl⟩),(h.mem _).2 (dartsE_mem.2 ⟨e,he,.inr rfl⟩)⟩
theorem WF.edge_step {l : List Vx} {es : List Ed} (h : WF l es) {e : Ed} (he : e∈es) : dpl l ⟨e.id,0⟩ < l.length∧dpl l ⟨e.id,1⟩ < l.length∧stepV l (dpl l ⟨e.id,0⟩) (dpl l ⟨e.id,1⟩):=by
  obtain ⟨h0,h1⟩:=h.edge_in he
  obtain ⟨a1,a2⟩:=dpl_at h0
  obtain ⟨b1,b2⟩:=dpl_at h1
  exact ⟨a1,b1,⟨⟨e.id,0⟩,a2,b2⟩⟩
theorem stepV_bound {l : List Vx} (u w : Nat) (h : stepV l u w) : u < l.length∧w < l.length:=by
  obtain ⟨x,h1,h2⟩:=h
  exact ⟨ringAt_mem (u:=u) h1,ringAt_mem (u:=w) h2⟩
theorem WF.step_edge {l : List Vx} {es : List Ed} (h : WF l es) (u w : Nat) (hs : stepV l u w) : (u,w)∈edgP l es∨(w,u)∈edgP l es:=by
  obtain ⟨x,h1,h2⟩:=hs
  have hx : x∈allR l:=ringAt_all (u:=u) h1
  obtain ⟨e,he,hxe⟩:=dartsE_mem.1 ((h.mem x).1 hx)
  obtain ⟨h3,h4⟩:=h.edge_in he
  obtain ⟨_,a2⟩:=dpl_at h3
  obtain ⟨_,b2⟩:=dpl_at h4
  rcases hxe with rfl | rfl
  · have e1 := ringAt_one h.nd (u := u) h1 a2
    have e2:=ringAt_one h.nd (u:=w) h2 b2
    exact .inl (List.mem_map.2 ⟨e,he,by rw [e1,e2]⟩)
  · have e1 := ringAt_one h.nd (u := u) h1 b2
    have e2:=ringAt_one h.nd (u:=w) h2 a2
    exact .inr (List.mem_map.2 ⟨e,he,by rw [e1,e2]⟩)
theorem WF.rounds {l : List Vx} {es : List Ed} (h : WF l es) : sprK (edgP l es) (List.range l.length) l.length=(List.range l.length).map (labV l) :=
  spr_all stepV_symm stepV_bound (fun e he => by
    obtain ⟨f,hf,rfl⟩:=List.mem_map.1 he
    exact h.edge_step hf) h.step_edge (labV_lab l)
theorem WF.plV_dpl {l : List Vx} {es : List Ed} (h : WF l es) {x : Dart} (hx : x∈allR l) : atBy l x=some (l.getD (dpl l x) Vx0)∧plV l (idAt l (dpl l x))=dpl l x:=by
  obtain ⟨h1,h2⟩:=dpl_at hx
  refine ⟨?_,plV_at h.sv.nodup h1⟩
  unfold atBy firstBy
  show l[dpl l x]?=_
  rw [List.getD_eq_getElem?_getD,List.getElem?_eq_getElem h1]; rfl
/-! ### parts -/
noncomputable def partsI (l : List Vx) : List (List ID):=partsTo (labV l) (idAt l) l.length
def cIDs (p : List ID) : List TV:=[.sl .shared 2 (rowsBy ID.c p)]
theorem partsT_eq (l : List Vx) : partsT l=.sl .shared 1 (rowsBy cIDs (partsI l)):=by
  unfold partsT partsL partsI partsTo
  rw [rowsBy_map,List.map_map,List.map_map]
  congr 1
  refine List.map_congr_left fun q _ => ?_
  show [TV.sl .shared 2 _]=[TV.sl .shared 2 _]
  rw [rowsBy_map,List.map_map]; rfl
theorem partsI_len (l : List Vx) : (partsI l).length=partsN (labV l) l.length:=by
  unfold partsI partsTo partsN
  rw [List.length_map,List.countP_eq_length_filter]; rfl
end Go.Proofs.Ytcecojdeljbjoaa.Sx
namespace Go.Proofs.Ytcecojdeljbjoaa.Sx
open Go
def plZ (l : List Vx) (x : ID) : Int:=if plV l x=l.length then -1 else (plV l x : Int)
theorem plZ_lt {l : List Vx} {x : ID} (h : plV l x < l.length) : plZ l x=(plV l x : Int):=if_neg (by omega)
theorem i_r06_place (l : List Vx) (x : ID) (hl : Fits l) (es : TV) : call F 99 [.agg [.sl .shared 5 (rowsBy Vx.c l),es],.agg [.int .i64 x.s,.int .i64 x.n]]=some (.int .i64 (plZ l x)):=by
  have hle : (l).length≤5864062014634:=hl.le
  have hw : (l).length≤9223372036854775807:=Nat.le_trans hle (by decide)
  have S : ∀ n,n≤(l).length→(∀ i,i < n→∀ hi : i < (l).length,(fun v : Vx => decide (v.id=x)) (l)[i]=false)→∀ r,E (cs F) 0 f99_b1 (⟨(upd (upd (upd Sx.e0 5 (.v (.int .i64 ((n : Int))))) 3 (.p 3 0)) 2 (.p 2 0)),(upd (upd Sx.h0 3 (some (.var false [(.v (.int .i64 (x.s))),(.v (.int .i64 (x.n)))]))) 2 (some (.var false [(.v (.sl .shared 5 (rowsBy Vx.c l))),(.v es)])))⟩ : St)=some r→r.1≠.norm →
      E (cs F) 0 f99_l1 (⟨(upd (upd (upd Sx.e0 5 (.v (.int .i64 (0)))) 3 (.p 3 0)) 2 (.p 2 0)),(upd (upd Sx.h0 3 (some (.var false [(.v (.int .i64 (x.s))),(.v (.int .i64 (x.n)))]))) 2 (some (.var false [(.v (.sl .shared 5 (rowsBy Vx.c l))),(.v es)])))⟩ : St)=some r:=by
    intro n hn hno r hf hrr
    refine loop_to (b:=f99_b1) (fun i => (⟨(upd (upd (upd Sx.e0 5 (.v (.int .i64 ((i : Int))))) 3 (.p 3 0)) 2 (.p 2 0)),(upd (upd Sx.h0 3 (some (.var false [(.v (.int .i64 (x.s))),(.v (.int .i64 (x.n)))]))) 2 (some (.var false [(.v (.sl .shared 5 (rowsBy Vx.c l))),(.v es)])))⟩ : St)) n ?_ hf hrr
    intro i hi
    have h1 : i < (l).length:=Nat.lt_of_lt_of_le hi hn
    have h1z : (i : Int) < ((l).length : Int):=Int.ofNat_lt.2 h1
    have hne:=hno i hi h1
    have hne' : ¬ l[i].id=x:=of_decide_eq_false hne
    have hq1:=dec_f hne'
    have hq2:=dec_f (Ne.symm hne')
    simp only [f99_b1,dec_lt h1,h1z,rowsBy_get Vx.c h1,Vx.c,hq1,hq2,wrap_succ h1 hw,go_sem,seval]
  have S:=S ((l).findIdx (fun v : Vx => decide (v.id=x))) List.findIdx_le_length (fun i h1 h2 => findIdx_not h1 h2)
  rcases findIdx_cases (fun v : Vx => decide (v.id=x)) (l) with h0 | ⟨hlt,hp⟩
  · rw [h0] at S
    have := S _ (by simp only [f99_b1, dec_ge (Nat.le_refl (l).length), go_sem, seval]
                    rfl) (by simp)
    rw [plZ,plV,if_pos h0]
    rw [call_code F (show F 99=some (.code f99) from rfl)]
    simp only [f99,this,go_sem,seval]
  · rw [plZ, if_neg (show ¬ plV l x = l.length from Nat.ne_of_lt hlt), plV]
    generalize (l).findIdx (fun v : Vx => decide (v.id=x))=n at *
    have hltz : (n : Int) < ((l).length : Int):=Int.ofNat_lt.2 hlt
    have hp' : l[n].id=x:=of_decide_eq_true hp
    have hq1:=dec_t hp'
    have hq2:=dec_t hp'.symm
    have := S _ (by simp only [f99_b1, dec_lt hlt, hltz, rowsBy_get Vx.c hlt, Vx.c, hq1, hq2, go_sem, seval]
                    rfl) (by simp)
    rw [call_code F (show F 99=some (.code f99) from rfl)]
    simp only [f99,this,go_sem,seval]
theorem edgP_take {l : List Vx} {es : List Ed} {j : Nat} (hj : j < es.length) (f : List Nat) : spr (edgP l (es.take (j+1))) f=spr1 (spr (edgP l (es.take j)) f) (dpl l ⟨es[j].id,0⟩,dpl l ⟨es[j].id,1⟩):=by
  unfold edgP
  rw [List.take_succ_eq_append_getElem hj,List.map_append,spr_append]; rfl
theorem r06_round {l : List Vx} {es : List Ed} (h : WF l es) (k : Nat) (f : List Nat) (hf : f.length=l.length) : E (cs F) 0 f91_l3 (⟨(upd (upd (upd (upd Sx.e0 6 (.v (.int .i64 (0)))) 5 (.v (.int .i64 ((k : Int))))) 3 (.s 3 0 l.length)) 1 (.p 1 0)),(upd (upd Sx.h0 3 (some (.arr false 3 1 (rowsBy cNat f)))) 1 (some (.var false [(.v (.sl .shared 5 (rowsBy Vx.c l))),(.v (.sl .shared 4 (rowsBy Ed.c es)))])))⟩ : St) =
    some (.exit 4,(⟨(upd (upd (upd Sx.e0 5 (.v (.int .i64 ((k : Int))))) 3 (.s 3 0 l.length)) 1 (.p 1 0)),(upd (upd Sx.h0 3 (some (.arr false 3 1 (rowsBy cNat (spr (edgP l es) f))))) 1 (some (.var false [(.v (.sl .shared 5 (rowsBy Vx.c l))),(.v (.sl .shared 4 (rowsBy Ed.c es)))])))⟩ : St)):=by
  have hle:=h.le
  have hlv:=h.lv
  have l1 : E (cs F) 0 f91_l3 (⟨(upd (upd (upd (upd Sx.e0 6 (.v (.int .i64 (0)))) 5 (.v (.int .i64 ((k : Int))))) 3 (.s 3 0 l.length)) 1 (.p 1 0)),(upd (upd Sx.h0 3 (some (.arr false 3 1 (rowsBy cNat (spr (edgP l (es.take 0)) f))))) 1 (some (.var false [(.v (.sl .shared 5 (rowsBy Vx.c l))),(.v (.sl .shared 4 (rowsBy Ed.c es)))])))⟩ : St)=some (.exit 4,(⟨(upd (upd (upd Sx.e0 5 (.v (.int .i64 ((k : Int))))) 3 (.s 3 0 l.length)) 1 (.p 1 0)),(upd (upd Sx.h0 3 (some (.arr false 3 1 (rowsBy cNat (spr (edgP l es) f))))) 1 (some (.var false [(.v (.sl .shared 5 (rowsBy Vx.c l))),(.v (.sl .shared 4 (rowsBy Ed.c es)))])))⟩ : St)):=by
    refine loop_to (b:=f91_b3) (fun q0 => (⟨(upd (upd (upd (upd Sx.e0 6 (.v (.int .i64 ((q0 : Int))))) 5 (.v (.int .i64 ((k : Int))))) 3 (.s 3 0 l.length)) 1 (.p 1 0)),(upd (upd Sx.h0 3 (some (.arr false 3 1 (rowsBy cNat (spr (edgP l (es.take q0)) f))))) 1 (some (.var false [(.v (.sl .shared 5 (rowsBy Vx.c l))),(.v (.sl .shared 4 (rowsBy Ed.c es)))])))⟩ : St)) (es.length) ?_ ?_ (by simp)
    · intro j hj
      have hjz : (j : Int) < (es.length : Int):=by omega
      obtain ⟨m0,m1⟩:=h.edge_in (List.getElem_mem hj)
      obtain ⟨a1,a2⟩:=h.plV_dpl m0
      obtain ⟨b1,b2⟩:=h.plV_dpl m1
      have p0:=(dpl_at m0).1
      have p1:=(dpl_at m1).1
      have c0:=i_r04_At l ⟨es[j].id,0⟩ h.fits h.fitsR (.sl .shared 4 (rowsBy Ed.c es))
      have c1:=i_r04_At l ⟨es[j].id,1⟩ h.fits h.fitsR (.sl .shared 4 (rowsBy Ed.c es))
      have d0:=i_r06_place l (idAt l (dpl l ⟨es[j].id,0⟩)) h.fits (.sl .shared 4 (rowsBy Ed.c es))
      have d1:=i_r06_place l (idAt l (dpl l ⟨es[j].id,1⟩)) h.fits (.sl .shared 4 (rowsBy Ed.c es))
      rw [a1] at c0
      rw [b1] at c1
      rw [plZ_lt (by rw [a2]; exact p0),a2] at d0
      rw [plZ_lt (by rw [b2]; exact p1),b2] at d1
      rw [show atT (some (l.getD (dpl l ⟨es[j].id,0⟩) Vx0))=.tup [.agg [.int .i64 (idAt l (dpl l ⟨es[j].id,0⟩)).s,.int .i64 (idAt l (dpl l ⟨es[j].id,0⟩)).n],.bool true] from rfl] at c0
      rw [show atT (some (l.getD (dpl l ⟨es[j].id,1⟩) Vx0))=.tup [.agg [.int .i64 (idAt l (dpl l ⟨es[j].id,1⟩)).s,.int .i64 (idAt l (dpl l ⟨es[j].id,1⟩)).n],.bool true] from rfl] at c1
      rw [edgP_take hj]
      have hgl : (spr (edgP l (es.take j)) f).length=l.length:=by rw [spr_len,hf]
      generalize spr (edgP l (es.take j)) f=g at *
      generalize idAt l (dpl l ⟨es[j].id,0⟩)=x0 at *
      generalize idAt l (dpl l ⟨es[j].id,1⟩)=x1 at *
      generalize dpl l ⟨es[j].id,0⟩=a at *
      generalize dpl l ⟨es[j].id,1⟩=b at *
      have r0:=row_nat (f:=g) (i:=a) (by omega)
      have r1:=row_nat (f:=g) (i:=b) (by omega)
      have z0 : (a : Int) < (l.length : Int):=by omega
      have z1 : (b : Int) < (l.length : Int):=by omega
      have y0 : decide ((a : Int) ≥ 0)=true:=dec_t (by omega)
      have y1 : decide ((b : Int) ≥ 0)=true:=dec_t (by omega)
      have mn : (if (fat g b : Int) < (fat g a : Int) then (fat g b : Int) else (fat g a : Int))=((min (fat g a) (fat g b) : Nat) : Int):=by split<;>omega
      unfold spr1
      have s1 : (rowsBy cNat g).set a [.int .i64 ((min (fat g a) (fat g b) : Nat) : Int)]=rowsBy cNat (g.set a (min (fat g a) (fat g b))):=rowsBy_set cNat g _ _
      have r2:=row_nat (f:=g.set a (min (fat g a) (fat g b))) (i:=b) (by rw [List.length_set]; omega)
      have s2 : (rowsBy cNat (g.set a (min (fat g a) (fat g b)))).set b [.int .i64 ((min (fat g a) (fat g b) : Nat) : Int)]=rowsBy cNat ((g.set a (min (fat g a) (fat g b))).set b (min (fat g a) (fat g b))):=rowsBy_set cNat _ _ _
      generalize min (fat g a) (fat g b)=w at *
      simp only [f91_b3,dec_lt hj,hjz,rowsBy_get Ed.c hj,Ed.c,c0,c1,d0,d1,y0,y1,r0,r1,z0,z1,mn,s1,r2,s2,upd_two,wrap_succ hj (show es.length≤9223372036854775807 by omega),go_sem,seval]
    · rw [List.take_length]
      simp only [f91_b3,dec_ge (Nat.le_refl es.length),go_sem,seval]
  · exact l1
theorem i_r06_Labels {l : List Vx} {es : List Ed} (h : WF l es) : call F 91 [.agg [.sl .shared 5 (rowsBy Vx.c l),.sl .shared 4 (rowsBy Ed.c es)]]=some (labT l):=by
  have hle:=h.le
  have hlv:=h.lv
  have l1 : E (cs F) 0 f91_l1 (⟨(upd (upd (upd Sx.e0 4 (.v (.int .i64 (0)))) 3 (.s 3 0 0)) 1 (.p 1 0)),(upd (upd Sx.h0 3 (some (.arr false 3 1 (rowsBy cNat (List.range 0))))) 1 (some (.var false [(.v (.sl .shared 5 (rowsBy Vx.c l))),(.v (.sl .shared 4 (rowsBy Ed.c es)))])))⟩ : St)=some (.exit 0,(⟨(upd (upd Sx.e0 3 (.s 3 0 l.length)) 1 (.p 1 0)),(upd (upd Sx.h0 3 (some (.arr false 3 1 (rowsBy cNat (List.range l.length))))) 1 (some (.var false [(.v (.sl .shared 5 (rowsBy Vx.c l))),(.v (.sl .shared 4 (rowsBy Ed.c es)))])))⟩ : St)):=by
    refine loop_to (b:=f91_b1) (fun q0 => (⟨(upd (upd (upd Sx.e0 4 (.v (.int .i64 ((q0 : Int))))) 3 (.s 3 0 q0)) 1 (.p 1 0)),(upd (upd Sx.h0 3 (some (.arr false 3 1 (rowsBy cNat (List.range q0))))) 1 (some (.var false [(.v (.sl .shared 5 (rowsBy Vx.c l))),(.v (.sl .shared 4 (rowsBy Ed.c es)))])))⟩ : St)) (l.length) ?_ ?_ (by simp)
    · intro i hi
      have hiz : (i : Int) < (l.length : Int):=by omega
      rw [range_nat]
      have hlr : (rowsBy cNat (List.range i)).length=i:=by rw [rowsBy_map,List.length_map,List.length_range]
      generalize rowsBy cNat (List.range i)=q at *
      have e1 : q.take i=q:=by rw [← hlr,List.take_length]
      have h8 : (i+1) * 8≤140737488355328:=by omega
      simp only [f91_b1,dec_lt hi,hiz,h8,hlr,e1,wrap_succ hi (show l.length≤9223372036854775807 by omega),go_sem,seval]
    · simp only [f91_b1,dec_ge (Nat.le_refl l.length),go_sem,seval]
  have l2 : E (cs F) 0 f91_l2 (⟨(upd (upd (upd Sx.e0 5 (.v (.int .i64 (0)))) 3 (.s 3 0 l.length)) 1 (.p 1 0)),(upd (upd Sx.h0 3 (some (.arr false 3 1 (rowsBy cNat (sprK (edgP l es) (List.range l.length) 0))))) 1 (some (.var false [(.v (.sl .shared 5 (rowsBy Vx.c l))),(.v (.sl .shared 4 (rowsBy Ed.c es)))])))⟩ : St)=some (.exit 2,(⟨(upd Sx.e0 3 (.s 3 0 l.length)),(upd Sx.h0 3 (some (.arr false 3 1 (rowsBy cNat (sprK (edgP l es) (List.range l.length) l.length)))))⟩ : St)):=by
    refine loop_to (b:=f91_b2) (fun q0 => (⟨(upd (upd (upd Sx.e0 5 (.v (.int .i64 ((q0 : Int))))) 3 (.s 3 0 l.length)) 1 (.p 1 0)),(upd (upd Sx.h0 3 (some (.arr false 3 1 (rowsBy cNat (sprK (edgP l es) (List.range l.length) q0))))) 1 (some (.var false [(.v (.sl .shared 5 (rowsBy Vx.c l))),(.v (.sl .shared 4 (rowsBy Ed.c es)))])))⟩ : St)) (l.length) ?_ ?_ (by simp)
    · intro i hi
      have hiz : (i : Int) < (l.length : Int):=by omega
      have k1:=r06_round h i (sprK (edgP l es) (List.range l.length) i) (by
        clear l1 hi hiz
        induction i with
        | zero => exact List.length_range
        | succ i ih => show (spr _ _).length=_; rw [spr_len]; exact ih)
      show _=some (Ex.norm,(⟨(upd (upd (upd Sx.e0 5 (.v (.int .i64 (((i+1 : Nat) : Int))))) 3 (.s 3 0 l.length)) 1 (.p 1 0)),(upd (upd Sx.h0 3 (some (.arr false 3 1 (rowsBy cNat (spr (edgP l es) (sprK (edgP l es) (List.range l.length) i)))))) 1 (some (.var false [(.v (.sl .shared 5 (rowsBy Vx.c l))),(.v (.sl .shared 4 (rowsBy Ed.c es)))])))⟩ : St))
      generalize sprK (edgP l es) (List.range l.length) i=g at *
      generalize spr (edgP l es) g=g2 at *
      simp only [f91_b2,dec_lt hi,hiz,k1,wrap_succ hi (show l.length≤9223372036854775807 by omega),go_sem,seval]
    · simp only [f91_b2,dec_ge (Nat.le_refl l.length),go_sem,seval]
  rw [h.rounds] at l2
  unfold labT
  have hlr : (rowsBy cNat ((List.range l.length).map (labV l))).length=l.length:=by rw [rowsBy_map,List.length_map,List.length_map,List.length_range]
  have e0 : sprK (edgP l es) (List.range l.length) 0=List.range l.length:=rfl
  simp only [e0] at l2
  simp only [List.range_zero,rowsBy_nil] at l1
  generalize rowsBy cNat ((List.range l.length).map (labV l))=q at *
  generalize rowsBy cNat (List.range l.length)=q0 at *
  have e1 : q.take l.length=q:=by rw [← hlr,List.take_length]
  rw [call_code F (show F 91=some (.code f91) from rfl)]
  simp only [f91,l1,l2,e1,hlr,List.range_zero,rowsBy_nil,go_sem,seval]
theorem i_Parts {l : List Vx} {es : List Ed} (h : WF l es) : call F 96 [.agg [.sl .shared 5 (rowsBy Vx.c l),.sl .shared 4 (rowsBy Ed.c es)]]=some (.sl .shared 1 (rowsBy cIDs (partsI l))):=by
  rw [call_ext F (show F 96=some (.ext partsG) from rfl),← partsT_eq]
  exact partsG_eq _ _ h.labok
theorem i_comp_Count {l : List Vx} {es : List Ed} (h : WF l es) : call F 86 [.agg [.sl .shared 5 (rowsBy Vx.c l),.sl .shared 4 (rowsBy Ed.c es)]]=some (.int .i64 (partsN (labV l) l.length : Nat)):=by
  have c1:=i_Parts h
  have hl:=partsI_len l
  rw [call_code F (show F 86=some (.code f86) from rfl)]
  simp only [f86,c1,hl,go_sem,seval]
theorem partsN_succ (r : Nat→Nat) (i : Nat) : partsN r (i+1)=partsN r i+if r i=i then 1 else 0:=by
  unfold partsN
  rw [List.range_succ,List.countP_append,List.countP_singleton]
  by_cases e : r i=i
  · rw [if_pos e,if_pos (by simpa using e)]
  · rw [if_neg e,if_neg (by simpa using e)]
theorem i_r06_Count {l : List Vx} {es : List Ed} (h : WF l es) : call F 74 [.agg [.sl .shared 5 (rowsBy Vx.c l),.sl .shared 4 (rowsBy Ed.c es)]]=some (.int .i64 (partsN (labV l) l.length : Nat)):=by
  have c1:=i_r06_Labels h
  have hlv:=h.lv
  unfold labT at c1
  have hget : ∀ i,i < l.length→(rowsBy cNat ((List.range l.length).map (labV l)))[i]?=some [.int .i64 ((labV l i : Nat) : Int)]:=fun i hi => by
    rw [rowsBy_get cNat (by rw [List.length_map,List.length_range]; exact hi),List.getElem_map,List.getElem_range]; rfl
  have hlr : (rowsBy cNat ((List.range l.length).map (labV l))).length=l.length:=by rw [rowsBy_map,List.length_map,List.length_map,List.length_range]
  generalize rowsBy cNat ((List.range l.length).map (labV l))=q at *
  have l1 : E (cs F) 0 f74_l1 (⟨(upd (upd (upd Sx.e0 5 (.v (.int .i64 (0)))) 4 (.v (.int .i64 ((partsN (labV l) 0 : Nat))))) 3 (.s 3 0 l.length)),(upd Sx.h0 3 (some (.arr false 3 1 q)))⟩ : St)=some (.exit 0,(⟨(upd Sx.e0 4 (.v (.int .i64 ((partsN (labV l) l.length : Nat))))),Sx.h0⟩ : St)):=by
    refine loop_to (b:=f74_b1) (fun q0 => (⟨(upd (upd (upd Sx.e0 5 (.v (.int .i64 ((q0 : Int))))) 4 (.v (.int .i64 ((partsN (labV l) q0 : Nat))))) 3 (.s 3 0 l.length)),(upd Sx.h0 3 (some (.arr false 3 1 q)))⟩ : St)) (l.length) ?_ ?_ (by simp)
    · intro i hi
      have hiz : (i : Int) < (l.length : Int):=by omega
      have hp:=partsN_le (labV l) i
      have hw:=wrap_succ (i:=partsN (labV l) i) (n:=partsN (labV l) i+1) (Nat.lt_succ_self _) (by omega)
      have hg:=hget i hi
      rw [partsN_succ]
      generalize partsN (labV l) i=m at *
      by_cases e : labV l i=i
      · have hd : decide (((labV l i : Nat) : Int) = (i : Int)) = true := dec_t (by omega)
        rw [if_pos e]
        generalize labV l i=z at *
        simp only [f74_b1,dec_lt hi,hiz,hg,hd,hw,wrap_succ hi (show l.length≤9223372036854775807 by omega),go_sem,seval]
      · have hd : decide (((labV l i : Nat) : Int) = (i : Int)) = false := dec_f (by omega)
        rw [if_neg e,Nat.add_zero]
        generalize labV l i=z at *
        simp only [f74_b1,dec_lt hi,hiz,hg,hd,hw,wrap_succ hi (show l.length≤9223372036854775807 by omega),go_sem,seval]
    · simp only [f74_b1,dec_ge (Nat.le_refl l.length),go_sem,seval]
  have e0 : partsN (labV l) 0=0:=rfl
  simp only [e0,nat0] at l1
  generalize partsN (labV l) l.length=m at *
  rw [call_code F (show F 74=some (.code f74) from rfl)]
  simp only [f74,c1,hlr,l1,go_sem,seval]
end Go.Proofs.Ytcecojdeljbjoaa.Sx
namespace Go.Proofs.Ytcecojdeljbjoaa.Sx
open Go
theorem facesQ_dec {l : List Vx} {es : List Ed} (h : WF l es) : Dec (phiD l) (dartsE es) (facesD l es):=by
  have oo : OneOne (phiD l) (dartsE es):=⟨fun x hx => (h.mem _).1 ((phiD_oo h.pr).mem x ((h.mem x).2 hx)),fun x hx y hy => (phiD_oo h.pr).inj x ((h.mem x).2 hx) y ((h.mem y).2 hy)⟩
  exact oo.dec (by rw [dartsE_len]; have:=h.le; omega)
theorem Dec.onQ {f : Dart→Dart} {D D' : List Dart} {cs : List (List Dart)} (h : Dec f D cs) (e : ∀ x,x∈D↔x∈D') : Dec f D' cs:=⟨h.cy,h.nd,fun x => by rw [h.mem,e]⟩
theorem facesQ_all {l : List Vx} {es : List Ed} (h : WF l es) : Dec (phiD l) (allR l) (facesD l es):=(facesQ_dec h).onQ fun x => (h.mem x).symm
theorem facesQ_fits {l : List Vx} {es : List Ed} (h : WF l es) : (∀ p∈facesD l es,p.length≤80)∧(facesD l es).length≤80:=by
  have hd:=facesQ_dec h
  have hlen : (dartsE es).length≤80:=by rw [dartsE_len]; have:=h.le; omega
  have hfl : (facesD l es).flatten.length≤80:=Nat.le_trans (nodup_sub hd.nd fun x hx => (hd.mem x).1 hx) hlen
  refine ⟨fun p hp => Nat.le_trans (List.Sublist.length_le (List.sublist_flatten_of_mem hp)) hfl,?_⟩
  have key : ∀ cs : List (List Dart),(∀ c∈cs,c≠[])→cs.length≤cs.flatten.length:=by
    intro cs
    induction cs with
    | nil => intro _; exact Nat.le_refl _
    | cons c cs ih =>
      intro h
      rw [List.flatten_cons,List.length_append,List.length_cons]
      have:=ih fun d hd => h d (by simp [hd])
      have:=List.length_pos_iff.2 (h c (by simp))
      omega
  refine Nat.le_trans (key _ fun c hc e => ?_) hfl
  have:=hd.cy c hc
  rw [e] at this; cases this
noncomputable def cN (l : List Vx) : Nat:=partsN (labV l) l.length
def fN (l : List Vx) (es : List Ed) : Nat:=(facesD l es).length+aloneN l
noncomputable def gN (l : List Vx) (es : List Ed) : Nat:=(es.length+2 * cN l - l.length - fN l es) / 2
theorem WF.eul {l : List Vx} {es : List Ed} (h : WF l es) : Eul l l.length es.length (fN l es) (cN l):=⟨rfl,h.many.symm,⟨_,facesQ_all h,rfl⟩,⟨_,labV_lab l,rfl⟩⟩
theorem WF.gen {l : List Vx} {es : List Ed} (h : WF l es) : l.length+fN l es+2 * gN l es=es.length+2 * cN l:=by
  obtain ⟨g,hg⟩:=Eul.genus _ (Nat.le_refl _) h.pr h.eul
  unfold gN
  omega
theorem WF.small {l : List Vx} {es : List Ed} (h : WF l es) : fN l es≤104∧cN l≤24∧cN l≤fN l es∧cN l≤l.length:=by
  have h1:=(facesQ_fits h).2
  have h2:=h.lv
  have h3 : aloneN l≤l.length:=List.countP_le_length
  have h4 : cN l≤l.length:=partsN_le _ _
  have h5:=h.eul.faces_le h.pr
  refine ⟨by unfold fN; omega,by omega,h5.1,h4⟩
theorem i_Count1 (v : Vx) : call F 84 [.agg [.int .i64 v.id.s,.int .i64 v.id.n,.sl .shared 3 (rowsBy Dart.c v.ring),.str v.label,.int .i64 v.attr]]=some (.bool v.ring.isEmpty):=by
  have hd : decide ((v.ring.length : Int)=0)=v.ring.isEmpty:=by
    cases v.ring with
    | nil => rfl
    | cons x r => exact dec_f (by simp only [List.length_cons]; omega)
  rw [call_code F (show F 84=some (.code f84) from rfl)]
  simp only [f84,hd,go_sem,seval]
theorem aloneN_succ {l : List Vx} {i : Nat} (hi : i < l.length) : aloneN (l.take (i+1))=aloneN (l.take i)+if l[i].ring.isEmpty=true then 1 else 0:=by
  unfold aloneN
  rw [List.take_succ_eq_append_getElem hi,List.countP_append,List.countP_singleton]
theorem i_many (l : List Vx) (hl : l.length≤24) : call F 83 [.sl .shared 5 (rowsBy Vx.c l),.fn 84 []]=some (.int .i64 (aloneN l : Nat)):=by
  have l1 : E (cs F) 0 f83_l1 (⟨(upd (upd (upd (upd (upd Sx.e0 10 (.v (.int .i64 (0)))) 9 (.v (.int .i64 ((l.length : Int))))) 8 (.v (.sl .shared 5 (rowsBy Vx.c l)))) 5 (.v (.int .i64 ((aloneN (l.take 0) : Nat))))) 1 (.v (.fn 84 []))),Sx.h0⟩ : St)=some (.exit 0,(⟨(upd Sx.e0 5 (.v (.int .i64 ((aloneN l : Nat))))),Sx.h0⟩ : St)):=by
    refine loop_to (b:=f83_b1) (fun q0 => (⟨(upd (upd (upd (upd (upd Sx.e0 10 (.v (.int .i64 ((q0 : Int))))) 9 (.v (.int .i64 ((l.length : Int))))) 8 (.v (.sl .shared 5 (rowsBy Vx.c l)))) 5 (.v (.int .i64 ((aloneN (l.take q0) : Nat))))) 1 (.v (.fn 84 []))),Sx.h0⟩ : St)) (l.length) ?_ ?_ (by simp)
    · intro i hi
      have hiz : (i : Int) < (l.length : Int):=by omega
      have c1:=i_Count1 l[i]
      have ha : aloneN (l.take i)≤i:=Nat.le_trans List.countP_le_length (by rw [List.length_take]; omega)
      have hw:=wrap_succ (i:=aloneN (l.take i)) (n:=aloneN (l.take i)+1) (Nat.lt_succ_self _) (by omega)
      rw [aloneN_succ hi]
      generalize aloneN (l.take i)=m at *
      cases hb : l[i].ring.isEmpty with
      | true =>
        rw [hb] at c1
        rw [if_pos rfl]
        simp only [f83_b1,dec_lt hi,hiz,rowsBy_get Vx.c hi,Vx.c,c1,hw,wrap_succ hi (show l.length≤9223372036854775807 by omega),go_sem,seval]
      | false =>
        rw [hb] at c1
        rw [if_neg (by simp),Nat.add_zero]
        simp only [f83_b1,dec_lt hi,hiz,rowsBy_get Vx.c hi,Vx.c,c1,hw,wrap_succ hi (show l.length≤9223372036854775807 by omega),go_sem,seval]
    · rw [List.take_length]
      simp only [f83_b1,dec_ge (Nat.le_refl l.length),go_sem,seval]
  have e0 : aloneN (l.take 0)=0:=rfl
  simp only [e0,nat0] at l1
  rw [call_code F (show F 83=some (.code f83) from rfl)]
  simp only [f83,l1,go_sem,seval]
theorem i_euler_Count {l : List Vx} {es : List Ed} (h : WF l es) : call F 67 [.agg [.sl .shared 5 (rowsBy Vx.c l),.sl .shared 4 (rowsBy Ed.c es)]]=some (.tup [.int .i64 l.length,.int .i64 es.length,.int .i64 (fN l es : Nat),.int .i64 (cN l : Nat)]):=by
  have c1:=i_many l h.lv
  have c2:=i_Faces h
  have c3:=i_comp_Count h
  have hf:=h.small.1
  have w1 : IntKind.i64.wrap (((facesD l es).length : Int)+(aloneN l : Int))=(fN l es : Int):=by
    have e : (fN l es : Int)=((facesD l es).length : Int)+(aloneN l : Int):=by unfold fN; omega
    rw [wrap64 (by omega) (by omega),e]
  have e2 : partsN (labV l) l.length=cN l:=rfl
  rw [e2] at c3
  generalize fN l es=fn at *
  generalize cN l=cn at *
  generalize facesD l es=fs at *
  rw [call_code F (show F 67=some (.code f67) from rfl)]
  simp only [f67,c1,c2,c3,w1,go_sem,seval]
theorem i_euler_Genus {l : List Vx} {es : List Ed} (h : WF l es) : call F 52 [.agg [.sl .shared 5 (rowsBy Vx.c l),.sl .shared 4 (rowsBy Ed.c es)]]=some (.int .i64 (gN l es : Nat)):=by
  have c1:=i_euler_Count h
  have hg:=h.gen
  have hs:=h.small
  have hlv:=h.lv
  have hle:=h.le
  generalize fN l es=f at *
  generalize cN l=c at *
  generalize gN l es=g at *
  have w1 : IntKind.i64.wrap ((l.length : Int) - (es.length : Int))=(l.length : Int) - (es.length : Int):=wrap64 (by omega) (by omega)
  have w2 : IntKind.i64.wrap ((l.length : Int) - (es.length : Int)+(f : Int))=2 * ((c : Int) - (g : Int)):=by rw [wrap64 (by omega) (by omega)]; omega
  have td : (2 * ((c : Int) - (g : Int))).tdiv 2=(c : Int) - (g : Int):=Int.mul_tdiv_cancel_left _ (by decide)
  have w3 : IntKind.i64.wrap ((c : Int) - (g : Int))=(c : Int) - (g : Int):=wrap64 (by omega) (by omega)
  have w4 : IntKind.i64.wrap ((c : Int) - ((c : Int) - (g : Int)))=(g : Int):=by rw [wrap64 (by omega) (by omega)]; omega
  rw [call_code F (show F 52=some (.code f52) from rfl)]
  simp only [f52,c1,w1,w2,td,w3,w4,go_sem,seval]
theorem i_Planar {l : List Vx} {es : List Ed} (h : WF l es) : call F 36 [.agg [.sl .shared 5 (rowsBy Vx.c l),.sl .shared 4 (rowsBy Ed.c es)]]=some (.bool (decide (gN l es=0))):=by
  have c1:=i_euler_Genus h
  have hd : decide (((gN l es : Nat) : Int)=0)=decide (gN l es=0):=by rw [decide_eq_decide]; omega
  generalize gN l es=g at *
  rw [call_code F (show F 36=some (.code f36) from rfl)]
  simp only [f36,c1,hd,go_sem,seval]
noncomputable def mayC (l : List Vx) (es : List Ed) : Int:=if formC l es=0 then (if gN l es=0 then 0 else 11) else formC l es
theorem i_euler_May (l : List Vx) (es : List Ed) (hr : FitsR l) : call F 24 [.agg [.sl .shared 5 (rowsBy Vx.c l),.sl .shared 4 (rowsBy Ed.c es)]]=some (.int .i64 (mayC l es)):=by
  have c1:=i_diagram_Form l es hr
  unfold mayC
  by_cases hf : formC l es=0
  · have h := (formC_ok.1 hf).1
    have c2:=i_Planar h
    rw [hf] at c1
    rw [if_pos hf]
    by_cases hg : gN l es=0
    · rw [if_pos hg]
      rw [dec_t hg] at c2
      rw [call_code F (show F 24=some (.code f24) from rfl)]
      simp only [f24,c1,c2,go_sem,seval]
    · rw [if_neg hg]
      rw [dec_f hg] at c2
      rw [call_code F (show F 24=some (.code f24) from rfl)]
      simp only [f24,c1,c2,go_sem,seval]
  · have hd : decide (¬ formC l es = 0) = true := dec_t hf
    rw [if_neg hf]
    generalize formC l es=c at *
    rw [call_code F (show F 24=some (.code f24) from rfl)]
    simp only [f24,c1,hd,go_sem,seval]
theorem i_r07_Count {l : List Vx} {es : List Ed} (h : WF l es) : call F 58 [.agg [.sl .shared 5 (rowsBy Vx.c l),.sl .shared 4 (rowsBy Ed.c es)]]=some (.tup [.int .i64 l.length,.int .i64 es.length,.int .i64 (fN l es : Nat),.int .i64 (cN l : Nat)]):=by
  have c2:=i_r05_Faces h
  have c3:=i_r06_Count h
  have hlv:=h.lv
  have hff:=(facesQ_fits h).2
  have e2 : partsN (labV l) l.length=cN l:=rfl
  rw [e2] at c3
  have l1 : E (cs F) 0 f58_l1 (⟨(upd (upd (upd Sx.e0 7 (.v (.int .i64 (0)))) 6 (.v (.int .i64 (((facesD l es).length+aloneN (l.take 0) : Nat))))) 1 (.p 1 0)),(upd Sx.h0 1 (some (.var false [(.v (.sl .shared 5 (rowsBy Vx.c l))),(.v (.sl .shared 4 (rowsBy Ed.c es)))])))⟩ : St)=some (.exit 0,(⟨(upd (upd Sx.e0 6 (.v (.int .i64 ((fN l es : Nat))))) 1 (.p 1 0)),(upd Sx.h0 1 (some (.var false [(.v (.sl .shared 5 (rowsBy Vx.c l))),(.v (.sl .shared 4 (rowsBy Ed.c es)))])))⟩ : St)):=by
    refine loop_to (b:=f58_b1) (fun q0 => (⟨(upd (upd (upd Sx.e0 7 (.v (.int .i64 ((q0 : Int))))) 6 (.v (.int .i64 (((facesD l es).length+aloneN (l.take q0) : Nat))))) 1 (.p 1 0)),(upd Sx.h0 1 (some (.var false [(.v (.sl .shared 5 (rowsBy Vx.c l))),(.v (.sl .shared 4 (rowsBy Ed.c es)))])))⟩ : St)) (l.length) ?_ ?_ (by simp)
    · intro i hi
      have hiz : (i : Int) < (l.length : Int):=by omega
      have ha : aloneN (l.take i)≤i:=Nat.le_trans List.countP_le_length (by rw [List.length_take]; omega)
      rw [aloneN_succ hi,← Nat.add_assoc]
      have hw:=wrap_succ (i:=(facesD l es).length+aloneN (l.take i)) (n:=(facesD l es).length+aloneN (l.take i)+1) (Nat.lt_succ_self _) (by omega)
      generalize (facesD l es).length+aloneN (l.take i)=m at *
      have hd : decide ((l[i].ring.length : Int)=0)=l[i].ring.isEmpty:=by
        cases l[i].ring with
        | nil => rfl
        | cons x r => exact dec_f (by simp only [List.length_cons]; omega)
      cases hb : l[i].ring.isEmpty with
      | true =>
        rw [hb] at hd
        rw [if_pos rfl]
        simp only [f58_b1,dec_lt hi,hiz,rowsBy_get Vx.c hi,Vx.c,hd,hw,wrap_succ hi (show l.length≤9223372036854775807 by omega),go_sem,seval]
      | false =>
        rw [hb] at hd
        rw [if_neg (by simp),Nat.add_zero]
        simp only [f58_b1,dec_lt hi,hiz,rowsBy_get Vx.c hi,Vx.c,hd,hw,wrap_succ hi (show l.length≤9223372036854775807 by omega),go_sem,seval]
    · rw [List.take_length]
      simp only [f58_b1,dec_ge (Nat.le_refl l.length),fN,go_sem,seval]
  have e0 : aloneN (l.take 0)=0:=rfl
  simp only [e0,Nat.add_zero] at l1
  generalize fN l es=fn at *
  generalize cN l=cn at *
  generalize facesD l es=fs at *
  rw [call_code F (show F 58=some (.code f58) from rfl)]
  simp only [f58,l1,c2,c3,go_sem,seval]
theorem i_r07_Genus {l : List Vx} {es : List Ed} (h : WF l es) : call F 39 [.agg [.sl .shared 5 (rowsBy Vx.c l),.sl .shared 4 (rowsBy Ed.c es)]]=some (.int .i64 (gN l es : Nat)):=by
  have c1:=i_r07_Count h
  have hg:=h.gen
  have hs:=h.small
  have hlv:=h.lv
  have hle:=h.le
  generalize fN l es=f at *
  generalize cN l=c at *
  generalize gN l es=g at *
  have w1 : IntKind.i64.wrap (2 * (c : Int))=2 * (c : Int):=wrap64 (by omega) (by omega)
  have w2 : IntKind.i64.wrap (2 * (c : Int) - (l.length : Int))=2 * (c : Int) - (l.length : Int):=wrap64 (by omega) (by omega)
  have w3 : IntKind.i64.wrap (2 * (c : Int) - (l.length : Int)+(es.length : Int))=2 * (c : Int) - (l.length : Int)+(es.length : Int):=wrap64 (by omega) (by omega)
  have w4 : IntKind.i64.wrap (2 * (c : Int) - (l.length : Int)+(es.length : Int) - (f : Int))=2 * (g : Int):=by rw [wrap64 (by omega) (by omega)]; omega
  have td : (2 * (g : Int)).tdiv 2=(g : Int):=Int.mul_tdiv_cancel_left _ (by decide)
  have w5 : IntKind.i64.wrap (g : Int)=(g : Int):=wrap64 (by omega) (by omega)
  rw [call_code F (show F 39=some (.code f39) from rfl)]
  simp only [f39,c1,w1,w2,w3,w4,td,w5,go_sem,seval]
theorem i_r07_May (l : List Vx) (es : List Ed) (hr : FitsR l) (hL : FitsL l es) : call F 26 [.agg [.sl .shared 5 (rowsBy Vx.c l),.sl .shared 4 (rowsBy Ed.c es)]]=some (.int .i64 (mayC l es)):=by
  have c1:=i_r04_Form l es hr hL
  unfold mayC
  by_cases hf : formC l es=0
  · have h := (formC_ok.1 hf).1
    have c2:=i_r07_Genus h
    rw [hf] at c1
    rw [if_pos hf]
    by_cases hg : gN l es=0
    · rw [if_pos hg]
      have hd : decide (¬ ((gN l es : Nat) : Int)=0)=false:=dec_f (by omega)
      generalize gN l es=g at *
      rw [call_code F (show F 26=some (.code f26) from rfl)]
      simp only [f26,c1,c2,hd,go_sem,seval]
    · rw [if_neg hg]
      have hd : decide (¬ ((gN l es : Nat) : Int)=0)=true:=dec_t (by omega)
      generalize gN l es=g at *
      rw [call_code F (show F 26=some (.code f26) from rfl)]
      simp only [f26,c1,c2,hd,go_sem,seval]
  · have hd : decide (¬ formC l es = 0) = true := dec_t hf
    rw [if_neg hf]
    generalize formC l es=c at *
    rw [call_code F (show F 26=some (.code f26) from rfl)]
    simp only [f26,c1,hd,go_sem,seval]
end Go.Proofs.Ytcecojdeljbjoaa.Sx
namespace Go.Proofs.Ytcecojdeljbjoaa.Sx
open Go
def edB (x : ID) (s : ByteArray) (n : Int) : List UInt8:=putI x++textB s++numB n
def plE (es : List Ed) (x : ID) : Nat:=if es.findIdx (fun e => decide (e.id=x))=es.length then 0 else es.findIdx fun e => decide (e.id=x)
def dartB (es : List Ed) (x : Dart) : UInt8:=u8 ((plE es x.e : Int)+128 * x.d)
def vxB (es : List Ed) (v : Vx) : List UInt8:=edB v.id v.label v.attr++u8 v.ring.length :: v.ring.map (dartB es)
def edsB (es : List Ed) : List UInt8:=es.flatMap fun e => edB e.id e.label e.attr
def vxsB (es : List Ed) (l : List Vx) : List UInt8:=l.flatMap (vxB es)
def putD (l : List Vx) (es : List Ed) : List UInt8:=u8 es.length :: (edsB es++u8 l.length :: vxsB es l)
theorem mayC_form {l : List Vx} {es : List Ed} (h : mayC l es=0) : formC l es=0:=by
  unfold mayC at h
  split at h
  · assumption
  · exact h
/-! ### how many bytes -/
theorem edB_len (x : ID) (s : ByteArray) (n : Int) : (edB x s n).length=13+s.size:=by
  unfold edB
  rw [List.length_append,List.length_append,putI_len,textB_len,numB_len]; omega
end Go.Proofs.Ytcecojdeljbjoaa.Sx
namespace Go.Proofs.Ytcecojdeljbjoaa.Sx
open Go
def nR (l : List UInt8) (x : Int) (q : Nat) : List (List TV):=rowsBy cByte (l++(numB x).take q)++List.replicate (8 - q) [.int .u8 0]
theorem nR_len (l : List UInt8) (x : Int) {q : Nat} (h : q≤8) : (nR l x q).length=l.length+8:=by
  unfold nR
  rw [List.length_append,rowsBy_length,List.length_append,List.length_take,numB_len,List.length_replicate]
  omega
theorem nR_zero (l : List UInt8) (x : Int) : rowsBy cByte l++(List.replicate (l.length+8) [TV.int .u8 0]).drop l.length=nR l x 0:=by
  unfold nR
  rw [List.take_zero,List.append_nil,List.drop_replicate,show l.length+8 - l.length=8 - 0 by omega]
theorem nR_end (l : List UInt8) (x : Int) : nR l x 8=rowsBy cByte (l++numB x):=by
  unfold nR
  rw [List.take_of_length_le (by rw [numB_len]; omega)]
  simp
theorem numB_get (x : Int) {q : Nat} (h : q < 8) : (numB x)[q]?=some (byteK (x % 18446744073709551616) (7 - q)):=by
  match q,h with
  | 0,_ => rfl
  | 1,_ => rfl
  | 2,_ => rfl
  | 3,_ => rfl
  | 4,_ => rfl
  | 5,_ => rfl
  | 6,_ => rfl
  | 7,_ => rfl
theorem numB_take (x : Int) {q : Nat} (h : q < 8) : (numB x).take (q+1)=(numB x).take q++[byteK (x % 18446744073709551616) (7 - q)]:=by
  rw [List.take_add_one,numB_get x h]; rfl
theorem nR_set (l : List UInt8) (x : Int) {q : Nat} (h : q < 8) : (nR l x q).set (l.length+q) (cByte (byteK (x % 18446744073709551616) (7 - q)))=nR l x (q+1):=by
  unfold nR
  have e : (rowsBy cByte (l++(numB x).take q)).length=l.length+q:=by rw [rowsBy_length,List.length_append,List.length_take,numB_len]; omega
  rw [List.set_append_right _ _ (by omega),e,Nat.sub_self,show 8 - q=(8 - (q+1))+1 by omega,List.replicate_succ,List.set_cons_zero,numB_take x h,← List.append_assoc,← rowsBy_snoc,List.append_assoc]
  rfl
theorem nR_get (l : List UInt8) (x : Int) {q : Nat} (h : q < 8) : (nR l x q)[l.length+q]?=some [TV.int .u8 0]:=by
  unfold nR
  have e : (rowsBy cByte (l++(numB x).take q)).length=l.length+q:=by rw [rowsBy_length,List.length_append,List.length_take,numB_len]; omega
  rw [List.getElem?_append_right (by omega),e,Nat.sub_self,show 8 - q=(8 - (q+1))+1 by omega,List.replicate_succ]
  rfl
theorem byteR_eq (x : Int) {q : Nat} (h : q < 8) : [TV.int .u8 (IntKind.u8.wrap ((IntKind.u64.wrap x).fdiv (2 ^ min (8 * (7 - (q : Int))).toNat 64)))]=cByte (byteK (x % 18446744073709551616) (7 - q)):=by
  rw [u8_row,wrapU_mod,show min (8 * (7 - (q : Int))).toNat 64=8 * (7 - q) by omega,Int.fdiv_eq_ediv_of_nonneg _ (Int.pow_nonneg (by omega))]
  rfl
theorem i_pack_Num (l : List UInt8) (hl : l.length≤100000) (fl : Fl) (x : Int) : call F 17 [.sl fl 1 (rowsBy cByte l),.int .i64 x]=some (.sl (.own 5) 1 (rowsBy cByte (l++numB x))):=by
  have w8 : IntKind.i64.wrap ((l.length : Int)+8)=(l.length : Int)+8:=wrap64 (by omega) (by omega)
  have t8 : ((l.length : Int)+8).toNat=l.length+8:=by omega
  have n8 : (0 : Int)≤(l.length : Int)+8:=by omega
  have b8 : (l.length : Int)+8≤140737488355328:=by omega
  have m8 : min l.length (l.length+8)=l.length:=by omega
  have hz:=nR_zero l x
  have tk : (l++numB x).take (l.length+8)=l++numB x:=List.take_of_length_le (by rw [List.length_append,numB_len]; omega)
  have l1 : E (cs F) 0 f17_l1 (⟨(upd (upd (upd (upd Sx.e0 14 (.v (.int .i64 (0)))) 5 (.s 5 0 (l.length+8))) 1 (.v (.int .i64 (x)))) 0 (.v (.sl fl 1 (rowsBy cByte l)))),(upd Sx.h0 5 (some (.arr false 5 1 (nR l x 0))))⟩ : St)=some (.exit 0,(⟨(upd Sx.e0 5 (.s 5 0 (l.length+8))),(upd Sx.h0 5 (some (.arr false 5 1 (nR l x 8))))⟩ : St)):=by
    refine loop_to (b:=f17_b1) (fun q0 => (⟨(upd (upd (upd (upd Sx.e0 14 (.v (.int .i64 ((q0 : Int))))) 5 (.s 5 0 (l.length+8))) 1 (.v (.int .i64 (x)))) 0 (.v (.sl fl 1 (rowsBy cByte l)))),(upd Sx.h0 5 (some (.arr false 5 1 (nR l x q0))))⟩ : St)) (8) ?_ ?_ (by simp)
    · intro i h1
      have h2 : (i : Int) < 8:=by omega
      have c0 : IntKind.i64.wrap ((l.length : Int)+i)=(l.length : Int)+i:=wrap64 (by omega) (by omega)
      have c1 : IntKind.i64.wrap (7 - (i : Int))=7 - i:=wrap64 (by omega) (by omega)
      have c2 : IntKind.i64.wrap (8 * (7 - (i : Int)))=8 * (7 - i):=wrap64 (by omega) (by omega)
      have c3 : ¬ 8 * (7 - (i : Int)) < 0:=by omega
      have c4 : (0 : Int)≤(l.length : Int)+i:=by omega
      have c5 : ((l.length : Int)+i).toNat=l.length+i:=by omega
      have c6 : l.length+i < l.length+8:=by omega
      have c7:=nR_len l x (Nat.le_of_lt h1)
      have d1 : (l.length : Int)+i < ((l.length+8 : Nat) : Int):=by omega
      have c8:=nR_get l x h1
      have c9:=nR_set l x h1
      rw [← byteR_eq x h1] at c9
      simp only [f17_b1,rowsBy_length,decide_eq_true h2,c0,c1,c2,c3,c4,c5,c6,c7,c8,c9,d1,List.set_cons_zero,wrap_succ h1 (show 8≤9223372036854775807 by omega),go_sem,seval]
    · simp only [f17_b1,go_sem,seval]
  rw [call_code F (show F 17=some (.code f17) from rfl)]
  simp only [f17,rowsBy_length,w8,t8,n8,b8,m8,Nat.zero_add,List.nil_append,List.take_zero,rowsBy_takeAll,hz,nR_len l x (Nat.zero_le 8),l1,Int.mul_one,nR_end,tk,go_sem,seval]
theorem i_r08_Num (l : List UInt8) (hl : l.length≤100000) (fl : Fl) (x : Int) : call F 18 [.sl fl 1 (rowsBy cByte l),.int .i64 x]=some (.sl (.own 5) 1 (rowsBy cByte (l++numB x))):=by
  have l1 : E (cs F) 0 f18_l1 (⟨(upd (upd (upd Sx.e0 6 (.v (.int .i64 (7 - 0)))) 5 (.s 5 0 (l.length+0))) 1 (.v (.int .i64 (x)))),(upd Sx.h0 5 (some (.arr false 5 1 (rowsBy cByte (l++(numB x).take 0)))))⟩ : St)=some (.exit 0,(⟨(upd Sx.e0 5 (.s 5 0 (l.length+8))),(upd Sx.h0 5 (some (.arr false 5 1 (rowsBy cByte (l++numB x)))))⟩ : St)):=by
    refine loop_to (b:=f18_b1) (fun q0 => (⟨(upd (upd (upd Sx.e0 6 (.v (.int .i64 (7 - q0)))) 5 (.s 5 0 (l.length+q0))) 1 (.v (.int .i64 (x)))),(upd Sx.h0 5 (some (.arr false 5 1 (rowsBy cByte (l++(numB x).take q0)))))⟩ : St)) (8) ?_ ?_ (by simp)
    · intro i h1
      have h2 : (7 - (i : Int)) ≥ 0:=by omega
      have c1 : IntKind.i64.wrap (8 * (7 - (i : Int)))=8 * (7 - i):=wrap64 (by omega) (by omega)
      have c2 : IntKind.i64.wrap (7 - (i : Int) - 1)=7 - ((i+1 : Nat) : Int):=by rw [wrap64 (by omega) (by omega)]; omega
      have c3 : ¬ 8 * (7 - (i : Int)) < 0:=by omega
      have c9 : rowsBy cByte (l++(numB x).take i)++[cByte (byteK (x % 18446744073709551616) (7 - i))]=rowsBy cByte (l++(numB x).take (i+1)):=by rw [rowsBy_snoc,numB_take x h1,List.append_assoc]
      rw [← byteR_eq x h1] at c9
      have hR : (rowsBy cByte (l++(numB x).take i)).length=l.length+i:=by rw [rowsBy_length,List.length_append,List.length_take,numB_len]; omega
      have k1 : (l.length+(i+1)) * 1≤140737488355328:=by omega
      have tki : (l++(numB x).take i).take (l.length+i)=l++(numB x).take i:=List.take_of_length_le (by rw [List.length_append,List.length_take,numB_len]; omega)
      simp only [f18_b1,decide_eq_true h2,c1,c2,c3,c9,hR,k1,tki,Nat.add_assoc,List.take_length,go_sem,seval]
    · simp only [f18_b1,show (numB x).take 8=numB x from rfl,go_sem,seval]
  have hR : (rowsBy cByte l).length=l.length:=rowsBy_length _ _
  have k1 : l.length * 1≤140737488355328:=by omega
  simp only [Int.reduceSub,Nat.add_zero,List.take_zero,List.append_nil] at l1
  have tk : (l++numB x).take (l.length+8)=l++numB x:=List.take_of_length_le (by rw [List.length_append,numB_len]; omega)
  rw [call_code F (show F 18=some (.code f18) from rfl)]
  simp only [f18,hR,k1,l1,tk,List.nil_append,List.append_nil,List.take_zero,go_sem,seval]
theorem i_Clip (fl : Fl) (R : List (List TV)) : calli F 30 1000000 Sx.h0 [.v (.sl fl 1 R)]=some (.v (.sl (.tight 5) 1 R),Sx.h0):=by
  rw [calli_code F (fn:=f30) rfl]
  simp only [f30,Int.le_refl,Nat.sub_zero,List.take_length,go_sem,seval]
theorem i_pack_Text (l : List UInt8) (hl : l.length≤100000) (fl : Fl) (s : ByteArray) (hs : s.size≤100000) : call F 19 [.sl fl 1 (rowsBy cByte l),.str s]=some (.sl (.own 5) 1 (rowsBy cByte (l++textB s))):=by
  have e : rowsBy cByte l++[[.int .u8 (IntKind.u8.wrap s.size)]]++rowsBy cByte s.data.toList=rowsBy cByte (l++textB s):=by
    rw [u8_row,rowsBy_snoc,rowsBy_append]
    unfold textB
    simp
  have hsz : s.data.toList.length=s.size:=by rw [Array.length_toList]; rfl
  obtain ⟨z,hz⟩ : ∃ z,IntKind.u8.wrap (s.size : Int)=z:=⟨_,rfl⟩
  rw [← e,hz]
  have hq : (rowsBy cByte s.data.toList).length=s.size:=by rw [rowsBy_length,hsz]
  cases hR : rowsBy cByte l with
  | nil =>
    have k3 : (1+s.size) * 1≤140737488355328:=by omega
    have t2 : ([TV.int .u8 z] :: rowsBy cByte s.data.toList).take (1+s.size)=[TV.int .u8 z] :: rowsBy cByte s.data.toList:=take_all (by rw [List.length_cons,hq]; omega)
    rw [call_code F (show F 19=some (.code f19) from rfl)]
    simp only [f19,hz,i_Clip,byteRows_by,hq,Int.le_refl,List.take_length,Nat.sub_zero,k3,t2,List.nil_append,List.cons_append,go_sem,seval]
  | cons r R =>
    have hRl : R.length+1=l.length:=by rw [← rowsBy_length cByte l,hR]; rfl
    have k1 : (R.length+1+1) * 1≤140737488355328:=by omega
    have k3 : (R.length+1+1+s.size) * 1≤140737488355328:=by omega
    have t1 : (R++[[TV.int .u8 z]]).take (R.length+1)=R++[[TV.int .u8 z]]:=take_all (by simp)
    have t2 : (r :: (R++[[TV.int .u8 z]]++rowsBy cByte s.data.toList)).take (R.length+1+1+s.size)=r :: (R++[[TV.int .u8 z]]++rowsBy cByte s.data.toList):=take_all (by rw [List.length_cons,List.length_append,List.length_append,hq]; simp; omega)
    rw [call_code F (show F 19=some (.code f19) from rfl)]
    simp only [f19,hz,i_Clip,byteRows_by,hq,Int.le_refl,List.take_length,Nat.sub_zero,k1,k3,t1,go_sem,seval]
    all_goals simp only [t2,List.cons_append]
theorem i_r08_Text (l : List UInt8) (hl : l.length≤100000) (fl : Fl) (s : ByteArray) (hs : s.size≤100000) : call F 20 [.sl fl 1 (rowsBy cByte l),.str s]=some (.sl (.own 5) 1 (rowsBy cByte (l++textB s))):=by
  have e : rowsBy cByte l++[[.int .u8 (IntKind.u8.wrap s.size)]]++rowsBy cByte s.data.toList=rowsBy cByte (l++textB s):=by
    rw [u8_row,rowsBy_snoc,rowsBy_append]
    unfold textB
    simp
  have hsz : s.data.toList.length=s.size:=by rw [Array.length_toList]; rfl
  have hs2 : s.size≤140737488355328:=by omega
  have hR : (rowsBy cByte l).length=l.length:=rowsBy_length _ _
  have k1 : l.length * 1≤140737488355328:=by omega
  have k2 : (l.length+1) * 1≤140737488355328:=by omega
  have k3 : (l.length+1+s.size) * 1≤140737488355328:=by omega
  obtain ⟨z,hz⟩ : ∃ z,IntKind.u8.wrap (s.size : Int)=z:=⟨_,rfl⟩
  rw [← e,hz]
  have hq : (rowsBy cByte s.data.toList).length=s.size:=by rw [rowsBy_length,hsz]
  have t1 : (rowsBy cByte l++[[TV.int .u8 z]]).take (l.length+1)=rowsBy cByte l++[[TV.int .u8 z]]:=take_all (by rw [List.length_append,hR]; exact Nat.le_refl _)
  have t2 : (rowsBy cByte l++[[TV.int .u8 z]]++rowsBy cByte s.data.toList).take (l.length+1+s.size)=rowsBy cByte l++[[TV.int .u8 z]]++rowsBy cByte s.data.toList:=take_all (by rw [List.length_append,List.length_append,hR,hq]; exact Nat.le_refl _)
  rw [call_code F (show F 20=some (.code f20) from rfl)]
  simp only [f20,hz,byteRows_by,hq,hR,hs2,Int.le_refl,Nat.sub_zero,List.nil_append,k1,k2,k3,t1,t2,go_sem,seval]
end Go.Proofs.Ytcecojdeljbjoaa.Sx
namespace Go.Proofs.Ytcecojdeljbjoaa.Sx
open Go
/-! ### the map of places -/
def plI (k : Nat) : List Ed→List (List TV × List TV)
  | [] => []
  | e :: r => ([.int .i64 e.id.s,.int .i64 e.id.n],[.int .i64 (k : Int)]) :: plI (k+1) r
def keyI (x : ID) : List LV:=[LV.v (.int .i64 x.s),LV.v (.int .i64 x.n)]
theorem eqcI (x y : ID) : eqCells [Lk.i,Lk.i] (keyI x) (liftV [.int .i64 y.s,.int .i64 y.n])=some (decide (x=y)):=by
  unfold keyI
  have e : decide (x=y)=(decide (x.s=y.s) && decide (x.n=y.n)):=by
    cases x; cases y; simp
  rw [e]
  simp only [Bool.and_true,go_sem,seval]
theorem find_plI (x : ID) : ∀ (es : List Ed) (k : Nat),findM [Lk.i,Lk.i] (keyI x) (plI k es)=some (if es.findIdx (fun e => decide (e.id=x))=es.length then none else some [.int .i64 ((k+es.findIdx (fun e => decide (e.id=x)) : Nat) : Int)])
  | [],k => rfl
  | e :: es, k => by
    show findM _ _ (([.int .i64 e.id.s,.int .i64 e.id.n],[.int .i64 (k : Int)]) :: plI (k+1) es)=_
    rw [findM,eqcI,List.findIdx_cons]
    by_cases h : x=e.id
    · subst h
      simp
    · have h' : ¬ e.id = x := fun q => h q.symm
      rw [decide_eq_false h,decide_eq_false h']
      simp only [cond_false,List.length_cons]
      rw [find_plI x es (k+1)]
      by_cases q : es.findIdx (fun e => decide (e.id=x))=es.length
      · rw [if_pos q,if_pos (by omega)]
      · rw [if_neg q,if_neg (by omega),show k+1+es.findIdx (fun e => decide (e.id=x))=k+(es.findIdx (fun e => decide (e.id=x))+1) by omega]
theorem upd_plI (e : Ed) : ∀ (es : List Ed) (k : Nat),e.id∉es.map Ed.id→updM [Lk.i,Lk.i] (keyI e.id) [.int .i64 e.id.s,.int .i64 e.id.n] [.int .i64 ((k+es.length : Nat) : Int)] (plI k es)=some (plI k (es++[e]))
  | [],k,_ => rfl
  | f :: es, k, h => by
    simp only [List.map_cons,List.mem_cons,not_or] at h
    have:=upd_plI e es (k+1) h.2
    rw [show k+1+es.length=k+(f :: es).length by simp only [List.length_cons]; omega] at this
    show updM _ _ _ _ (([.int .i64 f.id.s,.int .i64 f.id.n],[.int .i64 (k : Int)]) :: plI (k+1) es)=_
    rw [updM,eqcI,decide_eq_false h.1]
    simp only []
    rw [this]; rfl
theorem i_pack_put (l : List UInt8) (hl : l.length≤90000) (x : ID) (s : ByteArray) (n : Int) (hs : s.size≤1000) : call F 25 [.sl .shared 1 (rowsBy cByte l),.agg [.int .i64 x.s,.int .i64 x.n,.str s,.int .i64 n]]=some (.sl (.own 5) 1 (rowsBy cByte (l++edB x s n))):=by
  have c1:=i_ident_Put l (by omega) .shared x
  have c2:=i_pack_Text (l++putI x) (by rw [List.length_append,putI_len]; omega) .shared s (by omega)
  have c3:=i_pack_Num (l++putI x++textB s) (by rw [List.length_append,List.length_append,putI_len,textB_len]; omega) .shared n
  have e : l++edB x s n=l++putI x++textB s++numB n:=by unfold edB; simp only [List.append_assoc]
  rw [e]
  have t1 : ∀ (l : List UInt8),(rowsBy cByte l).take l.length=rowsBy cByte l:=fun l => rowsBy_takeAll _ _
  rw [call_code F (show F 25=some (.code f25) from rfl)]
  simp only [f25,c1,c2,c3,t1,rowsBy_length,go_sem,seval]
theorem i_r08_place (l : TV) (es : List Ed) (x : ID) (hle : es.length≤5864062014634) : call F 28 [.agg [l,.sl .shared 4 (rowsBy Ed.c es)],.agg [.int .i64 x.s,.int .i64 x.n]]=some (.int .i64 (plE es x : Nat)):=by
  have hw : es.length≤9223372036854775807:=Nat.le_trans hle (by decide)
  have S : ∀ n,n≤es.length→(∀ i,i < n→∀ hi : i < es.length,(fun v : Ed => decide (v.id=x)) es[i]=false)→∀ r,E (cs F) 0 f28_b1 (⟨(upd (upd (upd Sx.e0 5 (.v (.int .i64 ((n : Int))))) 3 (.p 3 0)) 2 (.p 2 0)),(upd (upd Sx.h0 3 (some (.var false [(.v (.int .i64 (x.s))),(.v (.int .i64 (x.n)))]))) 2 (some (.var false [(.v l),(.v (.sl .shared 4 (rowsBy Ed.c es)))])))⟩ : St)=some r→r.1≠.norm →
      E (cs F) 0 f28_l1 (⟨(upd (upd (upd Sx.e0 5 (.v (.int .i64 (0)))) 3 (.p 3 0)) 2 (.p 2 0)),(upd (upd Sx.h0 3 (some (.var false [(.v (.int .i64 (x.s))),(.v (.int .i64 (x.n)))]))) 2 (some (.var false [(.v l),(.v (.sl .shared 4 (rowsBy Ed.c es)))])))⟩ : St)=some r:=by
    intro n hn hno r hf hrr
    refine loop_to (b:=f28_b1) (fun i => (⟨(upd (upd (upd Sx.e0 5 (.v (.int .i64 ((i : Int))))) 3 (.p 3 0)) 2 (.p 2 0)),(upd (upd Sx.h0 3 (some (.var false [(.v (.int .i64 (x.s))),(.v (.int .i64 (x.n)))]))) 2 (some (.var false [(.v l),(.v (.sl .shared 4 (rowsBy Ed.c es)))])))⟩ : St)) n ?_ hf hrr
    intro i hi
    have h1 : i < es.length:=Nat.lt_of_lt_of_le hi hn
    have h1z : (i : Int) < (es.length : Int):=Int.ofNat_lt.2 h1
    have hne:=hno i hi h1
    have hne' : ¬ es[i].id=x:=of_decide_eq_false hne
    have hq1:=dec_f hne'
    have hq2:=dec_f (Ne.symm hne')
    simp only [f28_b1,dec_lt h1,h1z,rowsBy_get Ed.c h1,Ed.c,hq1,hq2,wrap_succ h1 hw,go_sem,seval]
  have S:=S (es.findIdx (fun v : Ed => decide (v.id=x))) List.findIdx_le_length (fun i h1 h2 => findIdx_not h1 h2)
  rcases findIdx_cases (fun v : Ed => decide (v.id=x)) es with h0 | ⟨hlt,hp⟩
  · rw [h0] at S
    have := S _ (by simp only [f28_b1, dec_ge (Nat.le_refl es.length), go_sem, seval]
                    rfl) (by simp)
    rw [plE,if_pos h0]
    rw [call_code F (show F 28=some (.code f28) from rfl)]
    simp only [f28,this,go_sem,seval]
    all_goals rfl
  · rw [plE, if_neg (Nat.ne_of_lt hlt)]
    generalize es.findIdx (fun v : Ed => decide (v.id=x))=n at *
    have hltz : (n : Int) < (es.length : Int):=Int.ofNat_lt.2 hlt
    have hp' : es[n].id=x:=of_decide_eq_true hp
    have hq1:=dec_t hp'
    have hq2:=dec_t hp'.symm
    have := S _ (by simp only [f28_b1, dec_lt hlt, hltz, rowsBy_get Ed.c hlt, Ed.c, hq1, hq2, go_sem, seval]
                    rfl) (by simp)
    rw [call_code F (show F 28=some (.code f28) from rfl)]
    simp only [f28,this,go_sem,seval]
end Go.Proofs.Ytcecojdeljbjoaa.Sx
namespace Go.Proofs.Ytcecojdeljbjoaa.Sx
open Go
structure Sml (l : List Vx) (es : List Ed) : Prop where
  le : es.length≤42
  lv : l.length≤26
  lr : ∀ v∈l,v.ring.length≤82
  se : ∀ e∈es,e.label.size≤500
  sv : ∀ v∈l,v.label.size≤500
def pB (es : List Ed) (i : Nat) : List UInt8:=u8 es.length :: edsB (es.take i)
theorem edsB_snoc (es : List Ed) (e : Ed) : edsB (es++[e])=edsB es++edB e.id e.label e.attr:=by
  unfold edsB; rw [List.flatMap_append]; simp
theorem vxsB_snoc (es : List Ed) (l : List Vx) (v : Vx) : vxsB es (l++[v])=vxsB es l++vxB es v:=by
  unfold vxsB; rw [List.flatMap_append]; simp
theorem pB_succ {es : List Ed} {i : Nat} (h : i < es.length) : pB es i++edB es[i].id es[i].label es[i].attr=pB es (i+1):=by
  unfold pB
  rw [List.take_succ_eq_append_getElem h,edsB_snoc]; rfl
theorem edsB_le : ∀ {es : List Ed},(∀ e∈es,e.label.size≤500)→(edsB es).length≤513 * es.length
  | [],_ => by simp [edsB]
  | e :: es, h => by
    have h1:=edsB_le (es:=es) fun x hx => h x (by simp [hx])
    have h2:=h e (by simp)
    show (edB e.id e.label e.attr++edsB es).length≤_
    rw [List.length_append,edB_len,List.length_cons]; omega
theorem pB_len {l : List Vx} {es : List Ed} (h : Sml l es) (i : Nat) : (pB es i).length≤21547:=by
  have h1:=edsB_le (es:=es.take i) fun e he => h.se e (List.mem_of_mem_take he)
  have h2:=h.le
  have h3 : (es.take i).length≤es.length:=by rw [List.length_take]; omega
  unfold pB
  rw [List.length_cons]; omega
theorem vxB_len {es : List Ed} {v : Vx} (h1 : v.ring.length≤82) (h2 : v.label.size≤500) : (vxB es v).length≤596:=by
  unfold vxB
  rw [List.length_append,edB_len,List.length_cons,List.length_map]; omega
theorem pack_Put_l1 {l : List Vx} {es : List Ed} (h : Sml l es) (hn : (es.map Ed.id).Nodup) :
    E (cs F) 0 f10_l1 (⟨(upd (upd (upd (upd (upd (upd Sx.e0 27 (.v (.int .i64 (0)))) 26 (.v (.int .i64 ((es.length : Int))))) 25 (.v (.sl .shared 4 (rowsBy Ed.c es)))) 6 (.s 6 0 (pB es 0).length)) 5 (.m 5)) 1 (.p 1 0)),(upd (upd (upd Sx.h0 6 (some (.arr false 5 1 (rowsBy cByte (pB es 0))))) 5 (some (.map false true false (plI 0 (es.take 0))))) 1 (some (.var false [(.v (.sl .shared 5 (rowsBy Vx.c l))),(.v (.sl .shared 4 (rowsBy Ed.c es)))])))⟩ : St) =
    some (.exit 0,(⟨(upd (upd (upd Sx.e0 6 (.s 6 0 (pB es es.length).length)) 5 (.m 5)) 1 (.p 1 0)),(upd (upd (upd Sx.h0 6 (some (.arr false 5 1 (rowsBy cByte (pB es es.length))))) 5 (some (.map false true false (plI 0 es)))) 1 (some (.var false [(.v (.sl .shared 5 (rowsBy Vx.c l))),(.v (.sl .shared 4 (rowsBy Ed.c es)))])))⟩ : St)):=by
  have hle:=h.le
  have l1 : E (cs F) 0 f10_l1 (⟨(upd (upd (upd (upd (upd (upd Sx.e0 27 (.v (.int .i64 (0)))) 26 (.v (.int .i64 ((es.length : Int))))) 25 (.v (.sl .shared 4 (rowsBy Ed.c es)))) 6 (.s 6 0 (pB es 0).length)) 5 (.m 5)) 1 (.p 1 0)),(upd (upd (upd Sx.h0 6 (some (.arr false 5 1 (rowsBy cByte (pB es 0))))) 5 (some (.map false true false (plI 0 (es.take 0))))) 1 (some (.var false [(.v (.sl .shared 5 (rowsBy Vx.c l))),(.v (.sl .shared 4 (rowsBy Ed.c es)))])))⟩ : St)=some (.exit 0,(⟨(upd (upd (upd Sx.e0 6 (.s 6 0 (pB es es.length).length)) 5 (.m 5)) 1 (.p 1 0)),(upd (upd (upd Sx.h0 6 (some (.arr false 5 1 (rowsBy cByte (pB es es.length))))) 5 (some (.map false true false (plI 0 es)))) 1 (some (.var false [(.v (.sl .shared 5 (rowsBy Vx.c l))),(.v (.sl .shared 4 (rowsBy Ed.c es)))])))⟩ : St)):=by
    refine loop_to (b:=f10_b1) (fun q0 => (⟨(upd (upd (upd (upd (upd (upd Sx.e0 27 (.v (.int .i64 ((q0 : Int))))) 26 (.v (.int .i64 ((es.length : Int))))) 25 (.v (.sl .shared 4 (rowsBy Ed.c es)))) 6 (.s 6 0 (pB es q0).length)) 5 (.m 5)) 1 (.p 1 0)),(upd (upd (upd Sx.h0 6 (some (.arr false 5 1 (rowsBy cByte (pB es q0))))) 5 (some (.map false true false (plI 0 (es.take q0))))) 1 (some (.var false [(.v (.sl .shared 5 (rowsBy Vx.c l))),(.v (.sl .shared 4 (rowsBy Ed.c es)))])))⟩ : St)) (es.length) ?_ ?_ (by simp)
    · intro i h1
      have h1z : (i : Int) < (es.length : Int):=by omega
      have hw : es.length≤9223372036854775807:=by omega
      have c1:=i_pack_put (pB es i) (by have:=pB_len h i; omega) es[i].id es[i].label es[i].attr (by have:=h.se _ (List.getElem_mem h1); omega)
      rw [pB_succ h1] at c1
      have u1:=upd_plI es[i] (es.take i) 0 (by
        intro hm
        have h2 : es.take (i+1)=es.take i++[es[i]]:=List.take_succ_eq_append_getElem h1
        have h3 : ((es.take (i+1)).map Ed.id).Nodup:=by
          rw [List.map_take]; exact hn.sublist (List.take_sublist _ _)
        rw [h2,List.map_append,List.nodup_append] at h3
        exact h3.2.2 _ hm _ (by simp) rfl)
      rw [← List.take_succ_eq_append_getElem h1,show 0+(es.take i).length=i by rw [List.length_take]; omega] at u1
      simp only [keyI] at u1
      have t1:=rowsBy_takeAll cByte (pB es i)
      simp only [f10_b1,dec_lt h1,h1z,rowsBy_get Ed.c h1,Ed.c,c1,u1,t1,rowsBy_length,wrap_succ h1 hw,go_sem,seval]
    · simp only [f10_b1,dec_ge (Nat.le_refl es.length),List.take_length,go_sem,seval]
  exact l1
/-! ### a ring -/
def rB (es : List Ed) (W : List UInt8) (r : List Dart) (i : Nat) : List UInt8:=W++(r.take i).map (dartB es)
theorem rB_succ {es : List Ed} {W : List UInt8} {r : List Dart} {i : Nat} (h : i < r.length) : rB es W r i++[dartB es r[i]]=rB es W r (i+1):=by
  unfold rB
  rw [List.take_succ_eq_append_getElem h,List.map_append,List.append_assoc]; rfl
theorem rB_len {es : List Ed} {W : List UInt8} {r : List Dart} {i : Nat} : (rB es W r i).length≤W.length+r.length:=by
  unfold rB
  rw [List.length_append,List.length_map,List.length_take]; omega
theorem dart_row (es : List Ed) (x : Dart) : [TV.int .u8 (IntKind.u8.wrap (IntKind.i64.wrap (((plE es x.e : Nat) : Int)+IntKind.i64.wrap (128 * x.d))))]=cByte (dartB es x):=by
  rw [u8_row]
  unfold dartB
  congr 1
  refine u8_eq ?_
  rw [wrapI_mod,wrapI_mod]
  omega
theorem pack_Put_l3 (l : List Vx) (es : List Ed) (W : List UInt8) (r : List Dart) (k : Int) (hW : W.length≤200000) (hr : r.length≤82) :
    E (cs F) 0 f10_l3 (⟨(upd (upd (upd (upd (upd (upd (upd (upd Sx.e0 73 (.v (.int .i64 (0)))) 72 (.v (.int .i64 ((r.length : Int))))) 71 (.v (.sl .shared 3 (rowsBy Dart.c r)))) 50 (.v (.int .i64 (k)))) 49 (.v (.int .i64 ((l.length : Int))))) 48 (.v (.sl .shared 5 (rowsBy Vx.c l)))) 6 (.s 6 0 (rB es W r 0).length)) 5 (.m 5)),(upd (upd Sx.h0 6 (some (.arr false 5 1 (rowsBy cByte (rB es W r 0))))) 5 (some (.map false true false (plI 0 es))))⟩ : St) =
    some (.exit 4,(⟨(upd (upd (upd (upd (upd Sx.e0 50 (.v (.int .i64 (k)))) 49 (.v (.int .i64 ((l.length : Int))))) 48 (.v (.sl .shared 5 (rowsBy Vx.c l)))) 6 (.s 6 0 (rB es W r r.length).length)) 5 (.m 5)),(upd (upd Sx.h0 6 (some (.arr false 5 1 (rowsBy cByte (rB es W r r.length))))) 5 (some (.map false true false (plI 0 es))))⟩ : St)):=by
  have l1 : E (cs F) 0 f10_l3 (⟨(upd (upd (upd (upd (upd (upd (upd (upd Sx.e0 73 (.v (.int .i64 (0)))) 72 (.v (.int .i64 ((r.length : Int))))) 71 (.v (.sl .shared 3 (rowsBy Dart.c r)))) 50 (.v (.int .i64 (k)))) 49 (.v (.int .i64 ((l.length : Int))))) 48 (.v (.sl .shared 5 (rowsBy Vx.c l)))) 6 (.s 6 0 (rB es W r 0).length)) 5 (.m 5)),(upd (upd Sx.h0 6 (some (.arr false 5 1 (rowsBy cByte (rB es W r 0))))) 5 (some (.map false true false (plI 0 es))))⟩ : St)=some (.exit 4,(⟨(upd (upd (upd (upd (upd Sx.e0 50 (.v (.int .i64 (k)))) 49 (.v (.int .i64 ((l.length : Int))))) 48 (.v (.sl .shared 5 (rowsBy Vx.c l)))) 6 (.s 6 0 (rB es W r r.length).length)) 5 (.m 5)),(upd (upd Sx.h0 6 (some (.arr false 5 1 (rowsBy cByte (rB es W r r.length))))) 5 (some (.map false true false (plI 0 es))))⟩ : St)):=by
    refine loop_to (b:=f10_b3) (fun q0 => (⟨(upd (upd (upd (upd (upd (upd (upd (upd Sx.e0 73 (.v (.int .i64 ((q0 : Int))))) 72 (.v (.int .i64 ((r.length : Int))))) 71 (.v (.sl .shared 3 (rowsBy Dart.c r)))) 50 (.v (.int .i64 (k)))) 49 (.v (.int .i64 ((l.length : Int))))) 48 (.v (.sl .shared 5 (rowsBy Vx.c l)))) 6 (.s 6 0 (rB es W r q0).length)) 5 (.m 5)),(upd (upd Sx.h0 6 (some (.arr false 5 1 (rowsBy cByte (rB es W r q0))))) 5 (some (.map false true false (plI 0 es))))⟩ : St)) (r.length) ?_ ?_ (by simp)
    · intro i h1
      have h1z : (i : Int) < (r.length : Int):=by omega
      have hw : r.length≤9223372036854775807:=by omega
      have hB:=rB_len (es:=es) (W:=W) (r:=r) (i:=i)
      have k1 : ((rB es W r i).length+1) * 1≤140737488355328:=by omega
      have t1:=rowsBy_takeAll cByte (rB es W r i)
      have e1:=dart_row es r[i]
      have e2:=rowsBy_snoc cByte (rB es W r i) (dartB es r[i])
      rw [rB_succ h1,← e1] at e2
      have e3 : (rB es W r (i+1)).length=(rB es W r i).length+1:=by rw [← rB_succ h1,List.length_append]; rfl
      have f1:=find_plI r[i].e es 0
      by_cases hq : es.findIdx (fun e => decide (e.id=r[i].e))=es.length
      · have hp : plE es r[i].e = 0 := by unfold plE; rw [if_pos hq]
        rw [if_pos hq] at f1
        simp only [keyI] at f1
        rw [hp] at e2
        simp only [show ((0 : Nat) : Int)=0 from rfl] at e2
        simp only [f10_b3,dec_lt h1,h1z,rowsBy_get Dart.c h1,Dart.c,f1,t1,e2,e3,k1,rowsBy_length,wrap_succ h1 hw,go_sem,seval]
      · have hp : plE es r[i].e = es.findIdx (fun e => decide (e.id = r[i].e)) := by unfold plE; rw [if_neg hq]
        rw [if_neg hq,Nat.zero_add,← hp] at f1
        simp only [keyI] at f1
        simp only [f10_b3,dec_lt h1,h1z,rowsBy_get Dart.c h1,Dart.c,f1,t1,e2,e3,k1,rowsBy_length,wrap_succ h1 hw,go_sem,seval]
    · simp only [f10_b3,dec_ge (Nat.le_refl r.length),go_sem,seval]
  exact l1
/-! ### all -/
def vB (es : List Ed) (l : List Vx) (k : Nat) : List UInt8:=pB es es.length++u8 l.length :: vxsB es (l.take k)
theorem rB_zero (es : List Ed) (W : List UInt8) (r : List Dart) : rB es W r 0=W:=by unfold rB; simp
theorem rB_all (es : List Ed) (W : List UInt8) (r : List Dart) : rB es W r r.length=W++r.map (dartB es):=by unfold rB; rw [List.take_length]
theorem vB_zero (es : List Ed) (l : List Vx) : vB es l 0=pB es es.length++[u8 l.length]:=by unfold vB; simp [vxsB]
theorem vB_succ {es : List Ed} {l : List Vx} {k : Nat} (h : k < l.length) : vB es l k++edB l[k].id l[k].label l[k].attr++[u8 l[k].ring.length]++l[k].ring.map (dartB es)=vB es l (k+1):=by
  unfold vB
  rw [List.take_succ_eq_append_getElem h,vxsB_snoc]
  unfold vxB
  simp only [List.append_assoc,List.cons_append,List.nil_append]
theorem vB_end (es : List Ed) (l : List Vx) : vB es l l.length=putD l es:=by
  unfold vB pB putD
  rw [List.take_length,List.take_length]; rfl
theorem vxsB_le {es : List Ed} : ∀ {l : List Vx},(∀ v∈l,v.ring.length≤82)→(∀ v∈l,v.label.size≤500)→(vxsB es l).length≤596 * l.length
  | [],_,_ => by simp [vxsB]
  | v :: l, h1, h2 => by
    have q1:=vxsB_le (es:=es) (l:=l) (fun x hx => h1 x (by simp [hx])) (fun x hx => h2 x (by simp [hx]))
    have q2:=vxB_len (es:=es) (h1 v (by simp)) (h2 v (by simp))
    show (vxB es v++vxsB es l).length≤_
    rw [List.length_append,List.length_cons]; omega
theorem vB_len {l : List Vx} {es : List Ed} (h : Sml l es) (k : Nat) : (vB es l k).length≤38000:=by
  have h1:=vxsB_le (es:=es) (l:=l.take k) (fun v hv => h.lr v (List.mem_of_mem_take hv)) (fun v hv => h.sv v (List.mem_of_mem_take hv))
  have h2:=pB_len h es.length
  have h3:=h.lv
  have h4 : (l.take k).length≤l.length:=by rw [List.length_take]; omega
  unfold vB
  rw [List.length_append,List.length_cons]; omega
theorem pack_Put_l2 {l : List Vx} {es : List Ed} (h : Sml l es) :
    E (cs F) 0 f10_l2 (⟨(upd (upd (upd (upd (upd Sx.e0 50 (.v (.int .i64 (0)))) 49 (.v (.int .i64 ((l.length : Int))))) 48 (.v (.sl .shared 5 (rowsBy Vx.c l)))) 6 (.s 6 0 (vB es l 0).length)) 5 (.m 5)),(upd (upd Sx.h0 6 (some (.arr false 5 1 (rowsBy cByte (vB es l 0))))) 5 (some (.map false true false (plI 0 es))))⟩ : St) =
    some (.exit 2,(⟨(upd Sx.e0 6 (.s 6 0 (vB es l l.length).length)),(upd Sx.h0 6 (some (.arr false 5 1 (rowsBy cByte (vB es l l.length)))))⟩ : St)):=by
  have hlv:=h.lv
  have l1 : E (cs F) 0 f10_l2 (⟨(upd (upd (upd (upd (upd Sx.e0 50 (.v (.int .i64 (0)))) 49 (.v (.int .i64 ((l.length : Int))))) 48 (.v (.sl .shared 5 (rowsBy Vx.c l)))) 6 (.s 6 0 (vB es l 0).length)) 5 (.m 5)),(upd (upd Sx.h0 6 (some (.arr false 5 1 (rowsBy cByte (vB es l 0))))) 5 (some (.map false true false (plI 0 es))))⟩ : St)=some (.exit 2,(⟨(upd Sx.e0 6 (.s 6 0 (vB es l l.length).length)),(upd Sx.h0 6 (some (.arr false 5 1 (rowsBy cByte (vB es l l.length)))))⟩ : St)):=by
    refine loop_to (b:=f10_b2) (fun q0 => (⟨(upd (upd (upd (upd (upd Sx.e0 50 (.v (.int .i64 ((q0 : Int))))) 49 (.v (.int .i64 ((l.length : Int))))) 48 (.v (.sl .shared 5 (rowsBy Vx.c l)))) 6 (.s 6 0 (vB es l q0).length)) 5 (.m 5)),(upd (upd Sx.h0 6 (some (.arr false 5 1 (rowsBy cByte (vB es l q0))))) 5 (some (.map false true false (plI 0 es))))⟩ : St)) (l.length) ?_ ?_ (by simp)
    · intro i h1
      have h1z : (i : Int) < (l.length : Int):=by omega
      have hw : l.length≤9223372036854775807:=by omega
      have hB:=vB_len h i
      have hr:=h.lr _ (List.getElem_mem h1)
      have hs:=h.sv _ (List.getElem_mem h1)
      have c1:=i_pack_put (vB es l i) (by omega) l[i].id l[i].label l[i].attr (by omega)
      have hq : (vB es l i++edB l[i].id l[i].label l[i].attr).length≤39000:=by rw [List.length_append,edB_len]; omega
      have hs1:=vB_succ (es:=es) h1
      generalize vB es l i++edB l[i].id l[i].label l[i].attr=Q at *
      have e1:=rowsBy_snoc cByte Q (u8 l[i].ring.length)
      rw [← u8_row] at e1
      have hW : (Q++[u8 l[i].ring.length]).length=Q.length+1:=by rw [List.length_append]; rfl
      have k1 : (Q.length+1) * 1≤140737488355328:=by omega
      have l3:=pack_Put_l3 l es (Q++[u8 l[i].ring.length]) l[i].ring (i : Int) (by omega) hr
      rw [rB_zero,rB_all,hs1,hW] at l3
      have t1:=rowsBy_takeAll cByte (vB es l i)
      have t2:=rowsBy_takeAll cByte Q
      simp only [f10_b2,dec_lt h1,h1z,rowsBy_get Vx.c h1,Vx.c,c1,t1,t2,e1,k1,l3,rowsBy_length,wrap_succ h1 hw,go_sem,seval]
    · simp only [f10_b2,dec_ge (Nat.le_refl l.length),go_sem,seval]
  exact l1
theorem may_sml {l : List Vx} {es : List Ed} (h : mayC l es=0) (hr : ∀ v∈l,v.ring.length≤82) : Sml l es∧(es.map Ed.id).Nodup:=by
  obtain ⟨hw,hl,_⟩:=formC_ok.1 (mayC_form h)
  have hml : ∀ s,mayLab s=true→s.size≤500:=by
    intro s hs
    unfold mayLab at hs
    simp only [Bool.and_eq_true,decide_eq_true_eq] at hs
    omega
  unfold labB at hl
  simp only [Bool.or_eq_false_iff,List.any_eq_false,Bool.not_eq_true',Bool.not_eq_false] at hl
  exact ⟨⟨by have:=hw.le; omega,by have:=hw.lv; omega,hr,fun e he => hml _ (hl.2 e he),fun v hv => hml _ (hl.1 v hv)⟩,hw.se.nodup⟩
theorem i_pack_PutF (l : List Vx) (es : List Ed) (hF : FitsR l) : call F 10 [.agg [.sl .shared 5 (rowsBy Vx.c l),.sl .shared 4 (rowsBy Ed.c es)]]=some (if mayC l es=0 then .tup [.sl (.own 5) 1 (rowsBy cByte (putD l es)),.int .i64 0] else .tup [.sl (.own 5) 1 [],.int .i64 (mayC l es)]):=by
  have c1:=i_euler_May l es hF
  by_cases hm : mayC l es=0
  · obtain ⟨h, hn⟩ := may_sml hm (fun v hv => by have := (formC_ok.1 (mayC_form hm)).1.ring80 hv; omega)
    rw [if_pos hm]
    rw [hm] at c1
    have l1:=pack_Put_l1 h hn
    have e0 : rowsBy cByte (pB es 0)=[[TV.int .u8 (IntKind.u8.wrap es.length)]]:=by
      show [cByte (u8 es.length)]=_
      rw [u8_row]
    rw [show (pB es 0).length=1 from rfl,e0,List.take_zero,show plI 0 []=[] from rfl] at l1
    have l2:=pack_Put_l2 h
    have e1 : rowsBy cByte (pB es es.length)++[[TV.int .u8 (IntKind.u8.wrap l.length)]]=rowsBy cByte (vB es l 0):=by rw [u8_row,rowsBy_snoc,vB_zero]
    have e2 : (vB es l 0).length=(pB es es.length).length+1:=by rw [vB_zero,List.length_append]; rfl
    have hp:=pB_len h es.length
    have k1 : ((pB es es.length).length+1) * 1≤140737488355328:=by omega
    have t1:=rowsBy_takeAll cByte (pB es es.length)
    have t2:=rowsBy_takeAll cByte (vB es l l.length)
    rw [e2] at l2
    rw [← vB_end]
    rw [call_code F (show F 10=some (.code f10) from rfl)]
    simp only [f10,c1,l1,l2,e1,k1,t1,t2,rowsBy_length,go_sem,seval]
  · have hd : decide (¬ mayC l es = 0) = true := dec_t hm
    rw [if_neg hm]
    generalize mayC l es=c at *
    rw [call_code F (show F 10=some (.code f10) from rfl)]
    simp only [f10,c1,hd,go_sem,seval]
theorem i_pack_Put (l : List Vx) (es : List Ed) (hr : ∀ v∈l,v.ring.length≤82) : call F 10 [.agg [.sl .shared 5 (rowsBy Vx.c l),.sl .shared 4 (rowsBy Ed.c es)]]=some (if mayC l es=0 then .tup [.sl (.own 5) 1 (rowsBy cByte (putD l es)),.int .i64 0] else .tup [.sl (.own 5) 1 [],.int .i64 (mayC l es)]):=i_pack_PutF l es (fun v hv => Fits.of (by have:=hr v hv; omega))
end Go.Proofs.Ytcecojdeljbjoaa.Sx
namespace Go.Proofs.Ytcecojdeljbjoaa.Sx
open Go
theorem r08_Put_l1 {l : List Vx} {es : List Ed} (h : Sml l es) (hm : ∀ e∈es,mayI e.id=true) :
    E (cs F) 0 f12_l1 (⟨(upd (upd (upd Sx.e0 6 (.v (.int .i64 (0)))) 5 (.s 5 0 (pB es 0).length)) 1 (.p 1 0)),(upd (upd Sx.h0 5 (some (.arr false 5 1 (rowsBy cByte (pB es 0))))) 1 (some (.var false [(.v (.sl .shared 5 (rowsBy Vx.c l))),(.v (.sl .shared 4 (rowsBy Ed.c es)))])))⟩ : St) =
    some (.exit 0,(⟨(upd (upd Sx.e0 5 (.s 5 0 (pB es es.length).length)) 1 (.p 1 0)),(upd (upd Sx.h0 5 (some (.arr false 5 1 (rowsBy cByte (pB es es.length))))) 1 (some (.var false [(.v (.sl .shared 5 (rowsBy Vx.c l))),(.v (.sl .shared 4 (rowsBy Ed.c es)))])))⟩ : St)):=by
  have hle:=h.le
  have l1 : E (cs F) 0 f12_l1 (⟨(upd (upd (upd Sx.e0 6 (.v (.int .i64 (0)))) 5 (.s 5 0 (pB es 0).length)) 1 (.p 1 0)),(upd (upd Sx.h0 5 (some (.arr false 5 1 (rowsBy cByte (pB es 0))))) 1 (some (.var false [(.v (.sl .shared 5 (rowsBy Vx.c l))),(.v (.sl .shared 4 (rowsBy Ed.c es)))])))⟩ : St)=some (.exit 0,(⟨(upd (upd Sx.e0 5 (.s 5 0 (pB es es.length).length)) 1 (.p 1 0)),(upd (upd Sx.h0 5 (some (.arr false 5 1 (rowsBy cByte (pB es es.length))))) 1 (some (.var false [(.v (.sl .shared 5 (rowsBy Vx.c l))),(.v (.sl .shared 4 (rowsBy Ed.c es)))])))⟩ : St)):=by
    refine loop_to (b:=f12_b1) (fun q0 => (⟨(upd (upd (upd Sx.e0 6 (.v (.int .i64 ((q0 : Int))))) 5 (.s 5 0 (pB es q0).length)) 1 (.p 1 0)),(upd (upd Sx.h0 5 (some (.arr false 5 1 (rowsBy cByte (pB es q0))))) 1 (some (.var false [(.v (.sl .shared 5 (rowsBy Vx.c l))),(.v (.sl .shared 4 (rowsBy Ed.c es)))])))⟩ : St)) (es.length) ?_ ?_ (by simp)
    · intro i h1
      have h1z : (i : Int) < (es.length : Int):=by omega
      have hw : es.length≤9223372036854775807:=by omega
      have hB:=pB_len h i
      have hs:=h.se _ (List.getElem_mem h1)
      have c1:=i_r01_Put (pB es i) (by omega) .shared (hm _ (List.getElem_mem h1))
      have c2:=i_r08_Text (pB es i++putI es[i].id) (by rw [List.length_append,putI_len]; omega) .shared es[i].label (by omega)
      have c3:=i_r08_Num (pB es i++putI es[i].id++textB es[i].label) (by rw [List.length_append,List.length_append,putI_len,textB_len]; omega) .shared es[i].attr
      have e : pB es i++putI es[i].id++textB es[i].label++numB es[i].attr=pB es (i+1):=by rw [← pB_succ h1]; unfold edB; simp only [List.append_assoc]
      rw [e] at c3
      have t1 : ∀ (l : List UInt8),(rowsBy cByte l).take l.length=rowsBy cByte l:=fun l => rowsBy_takeAll _ _
      simp only [f12_b1,dec_lt h1,h1z,rowsBy_get Ed.c h1,Ed.c,c1,c2,c3,t1,rowsBy_length,wrap_succ h1 hw,go_sem,seval]
    · simp only [f12_b1,rowsBy_length,dec_ge (Nat.le_refl es.length),go_sem,seval]
  exact l1
theorem r08_Put_l3 (l : List Vx) (es : List Ed) (W : List UInt8) (v : Vx) (k : Int) (hW : W.length≤200000) (hr : v.ring.length≤82) (hes : es.length≤42) :
    E (cs F) 0 f12_l3 (⟨(upd (upd (upd (upd (upd Sx.e0 9 (.v (.int .i64 (0)))) 8 (.p 8 0)) 7 (.v (.int .i64 (k)))) 5 (.s 5 0 (rB es W v.ring 0).length)) 1 (.p 1 0)),(upd (upd (upd Sx.h0 8 (some (.var false [(.v (.int .i64 (v.id.s))),(.v (.int .i64 (v.id.n))),(.v (.sl .shared 3 (rowsBy Dart.c v.ring))),(.v (.str v.label)),(.v (.int .i64 (v.attr)))]))) 5 (some (.arr false 5 1 (rowsBy cByte (rB es W v.ring 0))))) 1 (some (.var false [(.v (.sl .shared 5 (rowsBy Vx.c l))),(.v (.sl .shared 4 (rowsBy Ed.c es)))])))⟩ : St) =
    some (.exit 4,(⟨(upd (upd (upd Sx.e0 7 (.v (.int .i64 (k)))) 5 (.s 5 0 (rB es W v.ring v.ring.length).length)) 1 (.p 1 0)),(upd (upd Sx.h0 5 (some (.arr false 5 1 (rowsBy cByte (rB es W v.ring v.ring.length))))) 1 (some (.var false [(.v (.sl .shared 5 (rowsBy Vx.c l))),(.v (.sl .shared 4 (rowsBy Ed.c es)))])))⟩ : St)):=by
  have l1 : E (cs F) 0 f12_l3 (⟨(upd (upd (upd (upd (upd Sx.e0 9 (.v (.int .i64 (0)))) 8 (.p 8 0)) 7 (.v (.int .i64 (k)))) 5 (.s 5 0 (rB es W v.ring 0).length)) 1 (.p 1 0)),(upd (upd (upd Sx.h0 8 (some (.var false [(.v (.int .i64 (v.id.s))),(.v (.int .i64 (v.id.n))),(.v (.sl .shared 3 (rowsBy Dart.c v.ring))),(.v (.str v.label)),(.v (.int .i64 (v.attr)))]))) 5 (some (.arr false 5 1 (rowsBy cByte (rB es W v.ring 0))))) 1 (some (.var false [(.v (.sl .shared 5 (rowsBy Vx.c l))),(.v (.sl .shared 4 (rowsBy Ed.c es)))])))⟩ : St)=some (.exit 4,(⟨(upd (upd (upd Sx.e0 7 (.v (.int .i64 (k)))) 5 (.s 5 0 (rB es W v.ring v.ring.length).length)) 1 (.p 1 0)),(upd (upd Sx.h0 5 (some (.arr false 5 1 (rowsBy cByte (rB es W v.ring v.ring.length))))) 1 (some (.var false [(.v (.sl .shared 5 (rowsBy Vx.c l))),(.v (.sl .shared 4 (rowsBy Ed.c es)))])))⟩ : St)):=by
    refine loop_to (b:=f12_b3) (fun q0 => (⟨(upd (upd (upd (upd (upd Sx.e0 9 (.v (.int .i64 ((q0 : Int))))) 8 (.p 8 0)) 7 (.v (.int .i64 (k)))) 5 (.s 5 0 (rB es W v.ring q0).length)) 1 (.p 1 0)),(upd (upd (upd Sx.h0 8 (some (.var false [(.v (.int .i64 (v.id.s))),(.v (.int .i64 (v.id.n))),(.v (.sl .shared 3 (rowsBy Dart.c v.ring))),(.v (.str v.label)),(.v (.int .i64 (v.attr)))]))) 5 (some (.arr false 5 1 (rowsBy cByte (rB es W v.ring q0))))) 1 (some (.var false [(.v (.sl .shared 5 (rowsBy Vx.c l))),(.v (.sl .shared 4 (rowsBy Ed.c es)))])))⟩ : St)) (v.ring.length) ?_ ?_ (by simp)
    · intro i h1
      have h1z : (i : Int) < (v.ring.length : Int):=by omega
      have hw : v.ring.length≤9223372036854775807:=by omega
      have hB:=rB_len (es:=es) (W:=W) (r:=v.ring) (i:=i)
      have k1 : ((rB es W v.ring i).length+1) * 1≤140737488355328:=by omega
      have t1:=rowsBy_takeAll cByte (rB es W v.ring i)
      have e1:=dart_row es v.ring[i]
      have e2:=rowsBy_snoc cByte (rB es W v.ring i) (dartB es v.ring[i])
      rw [rB_succ h1,← e1] at e2
      have e3 : (rB es W v.ring (i+1)).length=(rB es W v.ring i).length+1:=by rw [← rB_succ h1,List.length_append]; rfl
      have cp:=i_r08_place (.sl .shared 5 (rowsBy Vx.c l)) es v.ring[i].e (by omega)
      simp only [f12_b3,dec_lt h1,h1z,rowsBy_get Dart.c h1,Dart.c,cp,t1,e2,e3,k1,rowsBy_length,wrap_succ h1 hw,go_sem,seval]
    · simp only [f12_b3,rowsBy_length,dec_ge (Nat.le_refl v.ring.length),go_sem,seval]
  exact l1
theorem r08_Put_l2 {l : List Vx} {es : List Ed} (h : Sml l es) (hm : ∀ v∈l,mayI v.id=true) :
    E (cs F) 0 f12_l2 (⟨(upd (upd (upd Sx.e0 7 (.v (.int .i64 (0)))) 5 (.s 5 0 (vB es l 0).length)) 1 (.p 1 0)),(upd (upd Sx.h0 5 (some (.arr false 5 1 (rowsBy cByte (vB es l 0))))) 1 (some (.var false [(.v (.sl .shared 5 (rowsBy Vx.c l))),(.v (.sl .shared 4 (rowsBy Ed.c es)))])))⟩ : St) =
    some (.exit 2,(⟨(upd Sx.e0 5 (.s 5 0 (vB es l l.length).length)),(upd Sx.h0 5 (some (.arr false 5 1 (rowsBy cByte (vB es l l.length)))))⟩ : St)):=by
  have hlv:=h.lv
  have hle:=h.le
  have l1 : E (cs F) 0 f12_l2 (⟨(upd (upd (upd Sx.e0 7 (.v (.int .i64 (0)))) 5 (.s 5 0 (vB es l 0).length)) 1 (.p 1 0)),(upd (upd Sx.h0 5 (some (.arr false 5 1 (rowsBy cByte (vB es l 0))))) 1 (some (.var false [(.v (.sl .shared 5 (rowsBy Vx.c l))),(.v (.sl .shared 4 (rowsBy Ed.c es)))])))⟩ : St)=some (.exit 2,(⟨(upd Sx.e0 5 (.s 5 0 (vB es l l.length).length)),(upd Sx.h0 5 (some (.arr false 5 1 (rowsBy cByte (vB es l l.length)))))⟩ : St)):=by
    refine loop_to (b:=f12_b2) (fun q0 => (⟨(upd (upd (upd Sx.e0 7 (.v (.int .i64 ((q0 : Int))))) 5 (.s 5 0 (vB es l q0).length)) 1 (.p 1 0)),(upd (upd Sx.h0 5 (some (.arr false 5 1 (rowsBy cByte (vB es l q0))))) 1 (some (.var false [(.v (.sl .shared 5 (rowsBy Vx.c l))),(.v (.sl .shared 4 (rowsBy Ed.c es)))])))⟩ : St)) (l.length) ?_ ?_ (by simp)
    · intro i h1
      have h1z : (i : Int) < (l.length : Int):=by omega
      have hw : l.length≤9223372036854775807:=by omega
      have hB:=vB_len h i
      have hr:=h.lr _ (List.getElem_mem h1)
      have hs:=h.sv _ (List.getElem_mem h1)
      have c1:=i_r01_Put (vB es l i) (by omega) .shared (hm _ (List.getElem_mem h1))
      have c2:=i_r08_Text (vB es l i++putI l[i].id) (by rw [List.length_append,putI_len]; omega) .shared l[i].label (by omega)
      have c3:=i_r08_Num (vB es l i++putI l[i].id++textB l[i].label) (by rw [List.length_append,List.length_append,putI_len,textB_len]; omega) .shared l[i].attr
      have e : vB es l i++putI l[i].id++textB l[i].label++numB l[i].attr=vB es l i++edB l[i].id l[i].label l[i].attr:=by unfold edB; simp only [List.append_assoc]
      rw [e] at c3
      have hq : (vB es l i++edB l[i].id l[i].label l[i].attr).length≤39000:=by rw [List.length_append,edB_len]; omega
      have hs1:=vB_succ (es:=es) h1
      generalize vB es l i++edB l[i].id l[i].label l[i].attr=Q at *
      have e1:=rowsBy_snoc cByte Q (u8 l[i].ring.length)
      rw [← u8_row] at e1
      have hW : (Q++[u8 l[i].ring.length]).length=Q.length+1:=by rw [List.length_append]; rfl
      have k1 : (Q.length+1) * 1≤140737488355328:=by omega
      have l3:=r08_Put_l3 l es (Q++[u8 l[i].ring.length]) l[i] (i : Int) (by omega) hr hle
      rw [rB_zero,rB_all,hs1,hW] at l3
      have t1 : ∀ (l : List UInt8),(rowsBy cByte l).take l.length=rowsBy cByte l:=fun l => rowsBy_takeAll _ _
      simp only [f12_b2,dec_lt h1,h1z,rowsBy_get Vx.c h1,Vx.c,c1,c2,c3,t1,e1,k1,l3,rowsBy_length,wrap_succ h1 hw,go_sem,seval]
    · simp only [f12_b2,rowsBy_length,dec_ge (Nat.le_refl l.length),go_sem,seval]
  exact l1
theorem i_r08_Put (l : List Vx) (es : List Ed) (hr : ∀ v∈l,v.ring.length≤82) (hL : FitsL l es) : call F 12 [.agg [.sl .shared 5 (rowsBy Vx.c l),.sl .shared 4 (rowsBy Ed.c es)]]=some (if mayC l es=0 then .tup [.sl (.own 5) 1 (rowsBy cByte (putD l es)),.int .i64 0] else .tup [.sl (.own 5) 1 [],.int .i64 (mayC l es)]):=by
  have c1:=i_r07_May l es (fun v hv => Fits.of (by have:=hr v hv; omega)) hL
  by_cases hm : mayC l es=0
  · obtain ⟨h, _⟩ := may_sml hm hr
    have hw:=(formC_ok.1 (mayC_form hm)).1
    rw [if_pos hm]
    rw [hm] at c1
    have l1:=r08_Put_l1 h (fun e he => hw.se.1 _ (List.mem_map_of_mem he))
    have e0 : rowsBy cByte (pB es 0)=[[TV.int .u8 (IntKind.u8.wrap es.length)]]:=by
      show [cByte (u8 es.length)]=_
      rw [u8_row]
    rw [show (pB es 0).length=1 from rfl,e0] at l1
    have l2:=r08_Put_l2 h (fun e he => hw.sv.1 _ (List.mem_map_of_mem he))
    have e1 : rowsBy cByte (pB es es.length)++[[TV.int .u8 (IntKind.u8.wrap l.length)]]=rowsBy cByte (vB es l 0):=by rw [u8_row,rowsBy_snoc,vB_zero]
    have e2 : (vB es l 0).length=(pB es es.length).length+1:=by rw [vB_zero,List.length_append]; rfl
    have hp:=pB_len h es.length
    have k1 : ((pB es es.length).length+1) * 1≤140737488355328:=by omega
    have t1:=rowsBy_takeAll cByte (pB es es.length)
    have t2:=rowsBy_takeAll cByte (vB es l l.length)
    rw [e2] at l2
    rw [← vB_end]
    rw [call_code F (show F 12=some (.code f12) from rfl)]
    simp only [f12,c1,l1,l2,e1,k1,t1,t2,rowsBy_length,go_sem,seval]
  · have hd : decide (¬ mayC l es = 0) = true := dec_t hm
    rw [if_neg hm]
    generalize mayC l es=c at *
    rw [call_code F (show F 12=some (.code f12) from rfl)]
    simp only [f12,c1,hd,go_sem,seval]
end Go.Proofs.Ytcecojdeljbjoaa.Sx
namespace Go.Proofs.Ytcecojdeljbjoaa.Sx
open Go
theorem none_wf : WF [] []:=wf_of (by decide) (by decide) (by decide +kernel) (by decide +kernel) (by decide +kernel)
theorem none_gen : gN [] []=0:=by
  have h:=none_wf.gen
  have h2:=none_wf.small
  rw [show fN [] []=0 by decide +kernel] at h
  simp only [List.length_nil] at h h2
  omega
theorem none_may : mayC [] []=0:=by
  unfold mayC
  rw [if_pos (formC_ok.2 ⟨none_wf,rfl,rfl⟩),if_pos none_gen]
theorem i_Put_none : call F 10 [.agg [.sl .shared 5 [],.sl .shared 4 []]]=some (.tup [.sl (.own 5) 1 [[.int .u8 0],[.int .u8 0]],.int .i64 0]):=by
  have c1:=i_euler_May [] [] (fun v hv => by cases hv)
  rw [none_may] at c1
  simp only [rowsBy_nil] at c1
  have w0 : IntKind.u8.wrap 0=0:=rfl
  rw [call_code F (show F 10=some (.code f10) from rfl)]
  simp only [f10,c1,go_sem,seval]
  rw [f10_l1_eq]
  simp only [f10_b1,go_sem,seval]
  rw [f10_l2_eq]
  simp only [f10_b2,w0,go_sem,seval]
theorem c_shown : call F 9 []=some (.bool true):=by
  have c1:=i_Put_none
  have c2:=i_pack_Num [] (by simp) (.tight 5) 1
  rw [List.nil_append,rowsBy_nil] at c2
  have hl : (rowsBy cByte (numB 1)).length=8:=by rw [rowsBy_length]; rfl
  rw [call_code F (show F 9=some (.code f9) from rfl)]
  have hb : ([UInt8.ofNat 0,UInt8.ofNat 0] == [0,0])=true:=rfl
  simp only [f9,c1,c2,hl,hb,go_sem,seval]

end Go.Proofs.Ytcecojdeljbjoaa.Sx
