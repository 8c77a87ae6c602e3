/- What the functions of faces come to. Faces gone round: what the iterator's rounds come to. All faces: what the program's rounds,and the reference's,come to. Lesser places spread along edges,in plain Lean: n rounds of that come to the least place of each part. Parts of a diagram that is well formed,in plain Lean: which vertices hang together; the reference's rounds; parts as lists. Chapter 6: its functions,the program's and the reference's,as what they come to in a diagram that is well formed. Faces,parts and the genus of a diagram that is well formed. Diagrams as bytes,in plain Lean: laid down,taken,and back. Bytes taken as a diagram,in plain Lean: round by round,as pack.Take goes. Heaps of a caller,as a function in its memory finds them: what is kept. The reader of bytes,in its caller's memory. Numbers and texts as bytes: what the functions that lay them down come to. Diagrams laid down as bytes: what the functions come to. Diagrams laid down as bytes: pack.Put and its reference. pack.Take,walked: its edges. pack.Take,walked: a ring. pack.Take,walked: a ring,all of it. pack.Take,walked: its vertices. pack.Take,walked: all of it. pack.Take: what bytes are taken as. Diagrams laid down as bytes: the reference's Put. Chapter 8: the head of its statements; numbers and texts. Chapter 8: the first of some; sizes. Chapter 8: diagrams laid down. Diagrams compared,copied; their names. -/
import Derived.Test.YtcecojdeljbjoaaSxG5
import Derived.Test.YtcecojdeljbjoaaSxG6
import Derived.Test.YtcecojdeljbjoaaSxG8
set_option maxRecDepth 100000
set_option linter.unusedSimpArgs false
set_option linter.unusedVariables false
namespace Go.Proofs.Ytcecojdeljbjoaa.Sx
open Go
theorem c_ident_Other (x : Dart) (h : x.d=0∨x.d=1) : call F 100 [.agg [.int .i64 x.e.s,.int .i64 x.e.n,.int .i64 x.d]]=some (.agg [.int .i64 x.e.s,.int .i64 x.e.n,.int .i64 (1 - x.d)]):=by
  obtain ⟨e,d⟩:=x
  simp only at h
  have h0 : IntKind.i64.wrap (xorB .i64 0 1)=1:=by decide
  have h1 : IntKind.i64.wrap (xorB .i64 1 1)=0:=by decide
  rcases h with rfl | rfl
  · rw [call_code F (show F 100 = some (.code f100) from rfl)]
    simp only [f100,h0,go_sem,seval]
  · rw [call_code F (show F 100 = some (.code f100) from rfl)]
    simp only [f100,h1,go_sem,seval]
theorem dartsE_snoc (es : List Ed) (e : Ed) : dartsE (es++[e])=dartsE es++[⟨e.id,0⟩,⟨e.id,1⟩]:=by unfold dartsE; rw [List.flatMap_append]; simp
theorem rowsBy_two {l : List Dart} (e : ID) : rowsBy Dart.c l++[[.int .i64 e.s,.int .i64 e.n,.int .i64 0],[.int .i64 e.s,.int .i64 e.n,.int .i64 1]]=rowsBy Dart.c (l++[⟨e,0⟩,⟨e,1⟩]):=by rw [← rowsBy_append]; rfl
theorem i_face_Darts (vs : TV) (es : List Ed) (he : es.length≤100000) : call F 94 [.agg [vs,.sl .shared 4 (rowsBy Ed.c es)]]=some (.sl (.own 56) 3 (rowsBy Dart.c (dartsE es))):=by
  have hw : es.length≤9223372036854775807:=by omega
  have l1 : E (cs F) 0 f94_l1 (⟨(upd (upd (upd (upd Sx.e0 10 (.v (.int .i64 (0)))) 9 (.v (.int .i64 ((es.length : Int))))) 8 (.v (.sl .shared 4 (rowsBy Ed.c es)))) 3 (.v (.sl (.tight 56) 3 []))),Sx.h0⟩ : St)=some (if es.length=0 then (.exit 0,(⟨(upd Sx.e0 3 (.v (.sl (.tight 56) 3 []))),Sx.h0⟩ : St)) else (.exit 0,(⟨(upd Sx.e0 3 (.s 3 0 (dartsE es).length)),(upd Sx.h0 3 (some (.arr false 56 3 (rowsBy Dart.c (dartsE es)))))⟩ : St))):=by
    refine loop_grow (b:=f94_b1) _ (fun q0 => (⟨(upd (upd (upd (upd Sx.e0 10 (.v (.int .i64 ((q0 : Int))))) 9 (.v (.int .i64 ((es.length : Int))))) 8 (.v (.sl .shared 4 (rowsBy Ed.c es)))) 3 (.s 3 0 (dartsE (es.take q0)).length)),(upd Sx.h0 3 (some (.arr false 56 3 (rowsBy Dart.c (dartsE (es.take q0))))))⟩ : St)) (es.length) ?_ (by simp) ?_ ?_ ?_ (by simp)
    · intro h0
      simp only [f94_b1,show decide ((0 : Int) < (es.length : Int))=false from decide_eq_false (by omega),go_sem,seval]
    · intro hn
      have hs : es.take 1=[es[0]]:=List.take_succ_eq_append_getElem (i:=0) hn
      have d1 : decide ((0 : Int) < (es.length : Int))=true:=decide_eq_true (by omega)
      have h1z : (0 : Int) < (es.length : Int):=by omega
      have hd : dartsE [es[0]]=[⟨es[0].id,0⟩,⟨es[0].id,1⟩]:=by simp [dartsE]
      have c1:=c_ident_Other ⟨es[0].id,0⟩ (.inl rfl)
      simp only [Int.reduceSub] at c1
      rw [hs,hd]
      simp only [f94_b1,d1,h1z,rowsBy_get Ed.c hn,Ed.c,c1,show IntKind.i64.wrap 1=1 from rfl,rowsBy,Dart.c,go_sem,seval]
    · intro i hi0 hi
      have h1z : (i : Int) < (es.length : Int):=by omega
      have hs : es.take (i+1)=es.take i++[es[i]]:=List.take_succ_eq_append_getElem hi
      have hl : (dartsE (es.take i)).length≤2 * i:=by rw [dartsE_len,List.length_take]; omega
      have c1:=c_ident_Other ⟨es[i].id,0⟩ (.inl rfl)
      simp only [Int.reduceSub] at c1
      rw [hs,dartsE_snoc]
      generalize dartsE (es.take i)=q at *
      have h5 : (q.length+2) * 24≤140737488355328:=by omega
      have h6:=rowsBy_two (l:=q) es[i].id
      simp only [f94_b1,dec_lt hi,h1z,rowsBy_get Ed.c hi,Ed.c,c1,h5,h6,wrap_succ hi hw,List.length_append,go_sem,seval]
    · intro hn
      rw [List.take_length]
      simp only [f94_b1,dec_ge (Nat.le_refl es.length),go_sem,seval]
  rw [call_code F (show F 94=some (.code f94) from rfl)]
  by_cases h0 : es.length=0
  · rw [if_pos h0] at l1
    have e0 : es=[]:=List.eq_nil_of_length_eq_zero h0
    have e1 : dartsE es=[]:=by rw [e0]; rfl
    rw [e1]
    simp only [f94,l1,rowsBy,go_sem,seval]
  · rw [if_neg h0] at l1
    simp only [f94,l1,go_sem,seval]
theorem ring_le {l : List Vx} {v : Vx} (hv : v∈l) : v.ring.length≤(allR l).length:=by
  induction l with
  | nil => cases hv
  | cons u l ih =>
    rw [allR_cons,List.length_append]
    rcases List.mem_cons.1 hv with rfl | hv
    · omega
    · have:=ih hv; omega
theorem WF.fits {l : List Vx} {es : List Ed} (h : WF l es) : Fits l:=by have:=h.lv; exact Fits.of (by omega)
theorem WF.ring80 {l : List Vx} {es : List Ed} (h : WF l es) {v : Vx} (hv : v∈l) : v.ring.length≤80:=by
  have h1:=ring_le hv
  rw [h.many] at h1
  have:=h.le
  omega
theorem WF.fitsR {l : List Vx} {es : List Ed} (h : WF l es) : FitsR l:=fun v hv => by
  have:=h.ring80 hv
  exact Fits.of (by omega)
theorem WF.side {l : List Vx} {es : List Ed} (h : WF l es) {x : Dart} (hx : x∈allR l) : x.d=0∨x.d=1:=by
  obtain ⟨e,_,h⟩:=dartsE_mem.1 ((h.mem x).1 hx)
  rcases h with rfl | rfl
  · exact .inl rfl
  · exact .inr rfl
theorem sigD_none {l : List Vx} {x : Dart} (h : atBy l x=none) : sigD l x=Dart0:=by unfold sigD; rw [h]
theorem sigD_some {l : List Vx} {x : Dart} {v : Vx} (h : atBy l x=some v) : sigD l x=nextD v.ring x:=by unfold sigD; rw [h]
theorem at_mem {l : List Vx} {x : Dart} {v : Vx} (h : atBy l x=some v) : x∈allR l:=mem_allR (atBy_some h).1 (atBy_some h).2
def sgT (l : List Vx) (x : Dart) : TV:=.tup [dartT (sigD l x),.bool (decide (x∈allR l))]
def phT (l : List Vx) (x : Dart) : TV:=.tup [dartT (if x∈allR l then phiD l x else Dart0),.bool (decide (x∈allR l))]
theorem i_face_Sigma (l : List Vx) (x : Dart) (hl : Fits l) (hr : FitsR l) (es : TV) : call F 107 [.agg [.sl .shared 5 (rowsBy Vx.c l),es],.agg [.int .i64 x.e.s,.int .i64 x.e.n,.int .i64 x.d]]=some (sgT l x):=by
  have hle : (l).length≤5864062014634:=hl.le
  have hw : (l).length≤9223372036854775807:=Nat.le_trans hle (by decide)
  have S : ∀ n,n≤(l).length→(∀ i,i < n→∀ hi : i < (l).length,(fun v : Vx => decide (x∈v.ring)) (l)[i]=false)→∀ r,E (cs F) 0 f107_b1 (⟨(upd (upd (upd (upd (upd Sx.e0 13 (.v (.int .i64 ((n : Int))))) 12 (.v (.int .i64 ((l.length : Int))))) 11 (.v (.sl .shared 5 (rowsBy Vx.c l)))) 4 (.p 4 0)) 3 (.p 3 0)),(upd (upd Sx.h0 4 (some (.var false [(.v (.int .i64 (0))),(.v (.int .i64 (0))),(.v (.int .i64 (0)))]))) 3 (some (.var false [(.v (.int .i64 (x.e.s))),(.v (.int .i64 (x.e.n))),(.v (.int .i64 (x.d)))])))⟩ : St)=some r→r.1≠.norm →
      E (cs F) 0 f107_l1 (⟨(upd (upd (upd (upd (upd Sx.e0 13 (.v (.int .i64 (0)))) 12 (.v (.int .i64 ((l.length : Int))))) 11 (.v (.sl .shared 5 (rowsBy Vx.c l)))) 4 (.p 4 0)) 3 (.p 3 0)),(upd (upd Sx.h0 4 (some (.var false [(.v (.int .i64 (0))),(.v (.int .i64 (0))),(.v (.int .i64 (0)))]))) 3 (some (.var false [(.v (.int .i64 (x.e.s))),(.v (.int .i64 (x.e.n))),(.v (.int .i64 (x.d)))])))⟩ : St)=some r:=by
    intro n hn hno r hf hrr
    refine loop_to (b:=f107_b1) (fun i => (⟨(upd (upd (upd (upd (upd Sx.e0 13 (.v (.int .i64 ((i : Int))))) 12 (.v (.int .i64 ((l.length : Int))))) 11 (.v (.sl .shared 5 (rowsBy Vx.c l)))) 4 (.p 4 0)) 3 (.p 3 0)),(upd (upd Sx.h0 4 (some (.var false [(.v (.int .i64 (0))),(.v (.int .i64 (0))),(.v (.int .i64 (0)))]))) 3 (some (.var false [(.v (.int .i64 (x.e.s))),(.v (.int .i64 (x.e.n))),(.v (.int .i64 (x.d)))])))⟩ : St)) n ?_ hf hrr
    intro i hi
    have h1 : i < (l).length:=Nat.lt_of_lt_of_le hi hn
    have h1z : (i : Int) < ((l).length : Int):=Int.ofNat_lt.2 h1
    have hne:=hno i hi h1
    have hv:=i_ring_Next l[i].ring x (hr _ (List.getElem_mem h1))
    rw [show decide (x∈l[i].ring)=false from hne] at hv
    simp only [dartT] at hv
    simp only [f107_b1,dec_lt h1,h1z,rowsBy_get Vx.c h1,Vx.c,hv,wrap_succ h1 hw,go_sem,seval]
  have S:=S ((l).findIdx (fun v : Vx => decide (x∈v.ring))) List.findIdx_le_length (fun i h1 h2 => findIdx_not h1 h2)
  rcases findIdx_cases (fun v : Vx => decide (x∈v.ring)) (l) with h0 | ⟨hlt,hp⟩
  · rw [h0] at S
    have := S _ (by simp only [f107_b1, dec_ge (Nat.le_refl (l).length), go_sem, seval]
                    rfl) (by simp)
    have hn : atBy l x=none:=by rw [atBy,firstBy_none h0]
    rw [sgT,sigD_none hn,dec_f (atBy_none hn)]
    rw [call_code F (show F 107=some (.code f107) from rfl)]
    simp only [f107,this,dartT,Dart0,ID0,go_sem,seval]
  · have hs : atBy l x = some l[(l).findIdx (fun v : Vx => decide (x ∈ v.ring))] := by rw [atBy, firstBy_some hlt]
    rw [sgT,sigD_some hs,dec_t (at_mem hs)]
    generalize (l).findIdx (fun v : Vx => decide (x∈v.ring))=n at *
    have hltz : (n : Int) < ((l).length : Int):=Int.ofNat_lt.2 hlt
    have hv:=i_ring_Next l[n].ring x (hr _ (List.getElem_mem hlt))
    rw [show decide (x∈l[n].ring)=true from hp] at hv
    simp only [dartT] at hv ⊢
    have := S _ (by simp only [f107_b1, dec_lt hlt, hltz, rowsBy_get Vx.c hlt, Vx.c, hv, go_sem, seval]
                    rfl) (by simp)
    rw [call_code F (show F 107=some (.code f107) from rfl)]
    simp only [f107,this,go_sem,seval]
theorem atBy_isSome {l : List Vx} {x : Dart} (h : x∈allR l) : ∃ v,atBy l x=some v:=by
  cases hc : atBy l x with
  | none => exact absurd h (atBy_none hc)
  | some v => exact ⟨v,rfl⟩
theorem i_face_Phi {l : List Vx} {es : List Ed} (h : WF l es) (x : Dart) : call F 102 [.agg [.sl .shared 5 (rowsBy Vx.c l),.sl .shared 4 (rowsBy Ed.c es)],.agg [.int .i64 x.e.s,.int .i64 x.e.n,.int .i64 x.d]]=some (phT l x):=by
  have ca:=i_At l x h.fits h.fitsR (.sl .shared 4 (rowsBy Ed.c es))
  by_cases hx : x∈allR l
  · obtain ⟨v, hv⟩ := atBy_isSome hx
    have co:=c_ident_Other x (h.side hx)
    have cg:=i_face_Sigma l (othD x) h.fits h.fitsR (.sl .shared 4 (rowsBy Ed.c es))
    have h2 : othD x∈allR l:=h.pr.oth x hx
    rw [sgT,dec_t h2] at cg
    rw [hv] at ca
    rw [phT,if_pos hx,dec_t hx]
    simp only [atT,idT,dartT,othD] at ca cg ⊢
    rw [call_code F (show F 102=some (.code f102) from rfl)]
    simp only [f102,ca,co,cg,phiD,othD,go_sem,seval]
  · have hn : atBy l x=none:=by
      cases hc : atBy l x with
      | none => rfl
      | some v => exact absurd (at_mem hc) hx
    rw [hn] at ca
    rw [phT,if_neg hx,dec_f hx]
    simp only [atT,idT,dartT,Dart0,ID0] at ca ⊢
    rw [call_code F (show F 102=some (.code f102) from rfl)]
    simp only [f102,ca,go_sem,seval]
end Go.Proofs.Ytcecojdeljbjoaa.Sx
namespace Go.Proofs.Ytcecojdeljbjoaa.Sx
open Go
def firsts (f : Dart→Dart) (x : Dart) (i : Nat) : List Dart:=(List.range i).map fun k => it f k x
theorem firsts_snoc (f : Dart→Dart) (x : Dart) (i : Nat) : firsts f x (i+1)=firsts f x i++[it f i x]:=by unfold firsts; rw [List.range_succ,List.map_append]; rfl
theorem firsts_len (f : Dart→Dart) (x : Dart) (i : Nat) : (firsts f x i).length=i:=by unfold firsts; simp
def pcD (x : Dart) : TV:=.pc [.int .i64 x.e.s,.int .i64 x.e.n,.int .i64 x.d]
def obD (x : Dart) : Option Ob:=some (.var false [.v (.int .i64 x.e.s),.v (.int .i64 x.e.n),.v (.int .i64 x.d)])
def pcG (l : List Vx) (es : List Ed) : TV:=.pc [.sl .shared 5 (rowsBy Vx.c l),.sl .shared 4 (rowsBy Ed.c es)]
theorem rowsBy_dart {l : List Dart} (x : Dart) : rowsBy Dart.c l++[[.int .i64 x.e.s,.int .i64 x.e.n,.int .i64 x.d]]=rowsBy Dart.c (l++[x]):=rowsBy_snoc Dart.c l x
def asE (l : List Vx) (es : List Ed) (x : Dart) : Nat→LV:=upd (upd (upd (upd Sx.e0 4 (LV.p 1000004 0)) 2 (.v (pcG l es))) 1 (.v (pcD x))) 0 .u
def asF (l : List Vx) (es : List Ed) (x : Dart) : Nat→LV:=upd (upd (upd (upd (upd Sx.e0 22 (.v (.bool false))) 4 (LV.p 1000004 0)) 2 (.v (pcG l es))) 1 (.v (pcD x))) 0 .u
theorem i_round (l : List Vx) (es : List Ed) (x : Dart) : call F 95 [.agg [.sl .shared 5 (rowsBy Vx.c l),.sl .shared 4 (rowsBy Ed.c es)],.agg [.int .i64 x.e.s,.int .i64 x.e.n,.int .i64 x.d]]=some (.fn 101 [pcD x,pcG l es]):=by
  simp only [pcD,pcG]
  rw [call_code F (show F 95=some (.code f95) from rfl)]
  simp only [f95,go_sem,seval]
end Go.Proofs.Ytcecojdeljbjoaa.Sx
namespace Go.Proofs.Ytcecojdeljbjoaa.Sx
open Go
def rowF (p : List Dart) : List TV:=[.sl .shared 3 (rowsBy Dart.c p)]
def stepF (f : Dart→Dart) (q : List (List Dart) × List Dart) (x : Dart) : List (List Dart) × List Dart:=if x∈q.2 then q else (q.1++[orb f 100 x],q.2++orb f 100 x)
theorem stepF_fold (f : Dart→Dart) : ∀ (xs : List Dart) (q : List (List Dart) × List Dart),(xs.foldl (stepF f) q).1=q.1++cycF f 100 xs q.2
  | [],q => by simp [cycF]
  | x :: xs, q => by
    rw [List.foldl_cons,stepF_fold f xs,stepF,cycF]
    split
    · rfl
    · simp
theorem stepF_told {f : Dart→Dart} {D : List Dart} (oo : OneOne f D) (hn : D.length≤100) : ∀ (xs : List Dart) (q : List (List Dart) × List Dart),(∀ x∈xs,x∈D)→(∀ y∈q.2,y∈D∧f y∈q.2)→(∀ y∈(xs.foldl (stepF f) q).2,y∈D∧f y∈(xs.foldl (stepF f) q).2)
  | [],q,_,h => h
  | x :: xs, q, hx, h => by
    rw [List.foldl_cons]
    refine stepF_told oo hn xs _ (fun y hy => hx y (by simp [hy])) ?_
    unfold stepF
    split
    · exact h
    · intro y hy
      simp only [List.mem_append] at hy ⊢
      rcases hy with hy | hy
      · exact ⟨(h y hy).1,.inl (h y hy).2⟩
      · exact ⟨oo.orb_in (hx x (by simp)) 100 y hy,.inr ((oo.orb_cy (hx x (by simp)) hn).step hy)⟩
def facesD (l : List Vx) (es : List Ed) : List (List Dart):=cycF (phiD l) 100 (dartsE es) []
def faR (v3 : LV) (k i : Nat) (fn : LV) : Rnd:={ bd:=.seq f85_ra f85_rb,p:=23,env:=upd (upd (upd (upd (upd (upd (upd (upd Sx.e0 22 fn) 13 (.v (.int .i64 ((i : Int))))) 12 (.v (.int .i64 ((k : Int))))) 11 (.s 11 0 k)) 7 (LV.p 7 0)) 4 (LV.p 4 0)) 3 v3) 1 (LV.p 1 0),lo:=0,ks:=[(1000004,1000004),(1,1),(3,3),(4,4),(7,7),(11,11),(10256,10256)] }
theorem faces_loop {l : List Vx} {es : List Ed} (h : WF l es) {x : Dart} (hx : x∈allR l) (told : List Dart) (ht : ∀ y∈trD l x,y∉told) (v3 : LV) (o3 : Option Ob) (ho : (v3=.v (.sl (.tight 37) 1 [])∧o3=none)∨∃ fs : List (List Dart),v3=.s 3 0 fs.length∧o3=some (.arr false 37 1 (rowsBy rowF fs))) (D : List Dart) (k0 : Nat) (fn : LV) :
    E ((cs F).ring (faR v3 D.length k0 fn)) 1000000 f101_l1 ⟨asE l es x,upd (upd (upd (upd (upd (upd (upd Sx.h0 10256 (some (.map false true false (mapD told)))) 11 (some (.arr false 56 3 (rowsBy Dart.c D)))) 7 (some (.var false [.v (.sl (.tight 56) 3 [])]))) 4 (some (.var false [.m 10256]))) 3 o3) 1 (some (.var false [.v (.sl .shared 5 (rowsBy Vx.c l)),.v (.sl .shared 4 (rowsBy Ed.c es))]))) 1000004 (obD x)⟩ =
      some (.ret,⟨upd (upd (upd (upd (upd Sx.e0 22 (.v (.bool true))) 4 (LV.p 1000004 0)) 2 (.v (pcG l es))) 1 (.v (pcD x))) 0 .u,upd (upd (upd (upd (upd (upd (upd (upd Sx.h0 10448 (some (.arr false 56 3 (rowsBy Dart.c (trD l x))))) 10256 (some (.map false true false (mapD (told++trD l x))))) 11 (some (.arr false 56 3 (rowsBy Dart.c D)))) 7 (some (.var false [.s 10448 0 (trD l x).length]))) 4 (some (.var false [.m 10256]))) 3 o3) 1 (some (.var false [.v (.sl .shared 5 (rowsBy Vx.c l)),.v (.sl .shared 4 (rowsBy Ed.c es))]))) 1000004 (obD x)⟩):=by
  have oo:=phiD_oo h.pr
  have hlen : (allR l).length≤100:=by rw [h.many]; have:=h.le; omega
  obtain ⟨hk,hback⟩:=oo.per_lt hx hlen
  have hne : ∀ i,i < per (phiD l) 100 x→it (phiD l) (i+1) x≠x:=fun i hi => per_not hi
  have hmem : ∀ i,it (phiD l) i x∈allR l:=fun i => it_mem oo.mem hx i
  have htr : trD l x=firsts (phiD l) x (per (phiD l) 100 x+1):=rfl
  have hnd:=oo.orb_nd hx 100
  have hno : ∀ i,i≤per (phiD l) 100 x→it (phiD l) i x∉told++firsts (phiD l) x i:=fun i hi hm => by
    rcases List.mem_append.1 hm with hm | hm
    · refine ht _ ?_ hm
      rw [htr]; unfold firsts; rw [List.mem_map]
      exact ⟨i,by rw [List.mem_range]; omega,rfl⟩
    · unfold firsts at hm
      obtain ⟨j,hj,e⟩:=List.mem_map.1 hm
      rw [List.mem_range] at hj
      have h1 : j < (orb (phiD l) 100 x).length:=by rw [orb_len]; omega
      have h2 : i < (orb (phiD l) 100 x).length:=by rw [orb_len]; omega
      have:=(List.getElem_inj hnd (h₀:=h1) (h₁:=h2)).1 (by rw [orb_get,orb_get]; exact e)
      omega
  rw [htr]
  have hk100 : per (phiD l) 100 x < 100:=by omega
  clear hnd ht htr
  generalize per (phiD l) 100 x=n at *
  have key : ∀ i : Nat,call F 102 [.agg [.sl .shared 5 (rowsBy Vx.c l),.sl .shared 4 (rowsBy Ed.c es)],.agg [.int .i64 (it (phiD l) i x).e.s,.int .i64 (it (phiD l) i x).e.n,.int .i64 (it (phiD l) i x).d]]=some (.tup [dartT (it (phiD l) (i+1) x),.bool true]):=fun i => by
    have:=i_face_Phi h (it (phiD l) i x)
    rw [phT,if_pos (hmem i),dec_t (hmem i)] at this
    exact this
  have g:=loop_grow (C:=(cs F).ring (faR v3 D.length k0 fn)) (lo:=1000000) (b:=f101_b1) ⟨asE l es x,upd (upd (upd (upd (upd (upd (upd Sx.h0 10256 (some (.map false true false (mapD told)))) 11 (some (.arr false 56 3 (rowsBy Dart.c D)))) 7 (some (.var false [.v (.sl (.tight 56) 3 [])]))) 4 (some (.var false [.m 10256]))) 3 o3) 1 (some (.var false [.v (.sl .shared 5 (rowsBy Vx.c l)),.v (.sl .shared 4 (rowsBy Ed.c es))]))) 1000004 (obD x)⟩
    (fun i => ⟨asF l es x,upd (upd (upd (upd (upd (upd (upd (upd Sx.h0 10448 (some (.arr false 56 3 (rowsBy Dart.c (firsts (phiD l) x i))))) 10256 (some (.map false true false (mapD (told++firsts (phiD l) x i))))) 11 (some (.arr false 56 3 (rowsBy Dart.c D)))) 7 (some (.var false [.s 10448 0 (firsts (phiD l) x i).length]))) 4 (some (.var false [.m 10256]))) 3 o3) 1 (some (.var false [.v (.sl .shared 5 (rowsBy Vx.c l)),.v (.sl .shared 4 (rowsBy Ed.c es))]))) 1000004 (obD (it (phiD l) i x))⟩) n
    (r0:=(.ret,⟨upd (upd (upd (upd (upd Sx.e0 22 (.v (.bool true))) 4 (LV.p 1000004 0)) 2 (.v (pcG l es))) 1 (.v (pcD x))) 0 .u,upd (upd (upd (upd (upd (upd (upd (upd Sx.h0 10448 (some (.arr false 56 3 (rowsBy Dart.c (firsts (phiD l) x (n+1)))))) 10256 (some (.map false true false (mapD (told++firsts (phiD l) x (n+1)))))) 11 (some (.arr false 56 3 (rowsBy Dart.c D)))) 7 (some (.var false [.s 10448 0 (firsts (phiD l) x (n+1)).length]))) 4 (some (.var false [.m 10256]))) 3 o3) 1 (some (.var false [.v (.sl .shared 5 (rowsBy Vx.c l)),.v (.sl .shared 4 (rowsBy Ed.c es))]))) 1000004 (obD x)⟩))
    (r:=(.ret,⟨upd (upd (upd (upd (upd Sx.e0 22 (.v (.bool true))) 4 (LV.p 1000004 0)) 2 (.v (pcG l es))) 1 (.v (pcD x))) 0 .u,upd (upd (upd (upd (upd (upd (upd (upd Sx.h0 10448 (some (.arr false 56 3 (rowsBy Dart.c (firsts (phiD l) x (n+1)))))) 10256 (some (.map false true false (mapD (told++firsts (phiD l) x (n+1)))))) 11 (some (.arr false 56 3 (rowsBy Dart.c D)))) 7 (some (.var false [.s 10448 0 (firsts (phiD l) x (n+1)).length]))) 4 (some (.var false [.m 10256]))) 3 o3) 1 (some (.var false [.v (.sl .shared 5 (rowsBy Vx.c l)),.v (.sl .shared 4 (rowsBy Ed.c es))]))) 1000004 (obD x)⟩))
    ?_ (by simp) ?_ ?_ ?_ (by simp)
  · rw [show (if n = 0 then _ else _) = _ from ite_self _] at g
    exact g
  · intro h0
    subst h0
    have c:=key 0
    have e0 : it (phiD l) 0 x=x:=rfl
    have e1 : it (phiD l) (0+1) x=x:=hback
    have e2 : firsts (phiD l) x (0+1)=[x]:=rfl
    have hm:=hno 0 (Nat.le_refl _)
    rw [e0,e1] at c
    rw [e2]
    have e3 : firsts (phiD l) x 0=[]:=rfl
    rw [e0,e3,List.append_nil] at hm
    have u1:=upd_mapD x told
    rw [if_neg hm] at u1
    simp only [asE,faR,pcD,pcG,obD,dartT,keyL,Dart.c] at c u1 ⊢
    rcases ho with ⟨rfl,rfl⟩ | ⟨fs,rfl,rfl⟩
    · simp only [f101_b1,f85_ra,f85_rb,Nat.reduceLT,c,u1,go_sem,seval]
    · simp only [f101_b1,f85_ra,f85_rb,Nat.reduceLT,c,u1,go_sem,seval]
  · intro hn
    have c:=key 0
    have e0 : it (phiD l) 0 x=x:=rfl
    have e2 : firsts (phiD l) x 1=[x]:=rfl
    have hd:=dec_f (hne 0 hn)
    have hm:=hno 0 (Nat.zero_le _)
    rw [e0] at c
    rw [e2]
    rw [Nat.zero_add] at c hd
    have e3 : firsts (phiD l) x 0=[]:=rfl
    rw [e0,e3,List.append_nil] at hm
    have u1:=upd_mapD x told
    rw [if_neg hm] at u1
    generalize it (phiD l) 1 x=y at *
    simp only [asE,asF,faR,pcD,pcG,obD,dartT,keyL,Dart.c] at c u1 ⊢
    rcases ho with ⟨rfl,rfl⟩ | ⟨fs,rfl,rfl⟩
    · simp only [f101_b1,f85_ra,f85_rb,Nat.reduceLT,c,hd,u1,go_sem,seval]
    · simp only [f101_b1,f85_ra,f85_rb,Nat.reduceLT,c,hd,u1,go_sem,seval]
  · intro i hi0 hi
    have c:=key i
    have hd:=dec_f (hne i hi)
    have hl : (firsts (phiD l) x i).length=i:=firsts_len _ _ _
    have hm:=hno i (Nat.le_of_lt hi)
    rw [firsts_snoc,← List.append_assoc]
    have u1:=upd_mapD (it (phiD l) i x) (told++firsts (phiD l) x i)
    rw [if_neg hm] at u1
    generalize it (phiD l) (i+1) x=y at *
    generalize it (phiD l) i x=z at *
    generalize firsts (phiD l) x i=q at *
    have h5 : (q.length+1) * 24≤140737488355328:=by omega
    have h6:=rowsBy_dart (l:=q) z
    generalize told++q=tq at *
    simp only [asE,asF,faR,pcD,pcG,obD,dartT,keyL,Dart.c] at c u1 ⊢
    rcases ho with ⟨rfl,rfl⟩ | ⟨fs,rfl,rfl⟩
    · simp only [f101_b1,f85_ra,f85_rb,Nat.reduceLT,c,hd,u1,h5,h6,List.length_append,go_sem,seval]
    · simp only [f101_b1,f85_ra,f85_rb,Nat.reduceLT,c,hd,u1,h5,h6,List.length_append,go_sem,seval]
  · intro hn
    have c:=key n
    have hl : (firsts (phiD l) x n).length=n:=firsts_len _ _ _
    have hm:=hno n (Nat.le_refl _)
    rw [firsts_snoc,← List.append_assoc]
    have u1:=upd_mapD (it (phiD l) n x) (told++firsts (phiD l) x n)
    rw [if_neg hm] at u1
    rw [hback] at c
    generalize it (phiD l) n x=z at *
    generalize firsts (phiD l) x n=q at *
    have h5 : (q.length+1) * 24≤140737488355328:=by omega
    have h6:=rowsBy_dart (l:=q) z
    generalize told++q=tq at *
    simp only [asE,asF,faR,pcD,pcG,obD,dartT,keyL,Dart.c] at c u1 ⊢
    rcases ho with ⟨rfl,rfl⟩ | ⟨fs,rfl,rfl⟩
    · simp only [f101_b1,f85_ra,f85_rb,Nat.reduceLT,c,u1,h5,h6,List.length_append,go_sem,seval]
    · simp only [f101_b1,f85_ra,f85_rb,Nat.reduceLT,c,u1,h5,h6,List.length_append,go_sem,seval]
def facesTo (l : List Vx) (es : List Ed) (i : Nat) : List (List Dart) × List Dart:=((dartsE es).take i).foldl (stepF (phiD l)) ([],[])
theorem facesTo_succ (l : List Vx) (es : List Ed) {i : Nat} (h : i < (dartsE es).length) : facesTo l es (i+1)=stepF (phiD l) (facesTo l es i) (dartsE es)[i]:=by
  unfold facesTo; rw [List.take_succ_eq_append_getElem h,List.foldl_append]; rfl
theorem facesTo_all (l : List Vx) (es : List Ed) : (facesTo l es (dartsE es).length).1=facesD l es:=by
  unfold facesTo facesD; rw [List.take_length,stepF_fold]; rfl
theorem facesTo_told {l : List Vx} {es : List Ed} (h : WF l es) (i : Nat) : ∀ y∈(facesTo l es i).2,y∈allR l∧phiD l y∈(facesTo l es i).2:=by
  have hlen : (allR l).length≤100:=by rw [h.many]; have:=h.le; omega
  exact stepF_told (phiD_oo h.pr) hlen _ _ (fun x hx => (h.mem x).2 (List.mem_of_mem_take hx)) (fun y hy => by cases hy)
theorem facesTo_len (l : List Vx) (es : List Ed) : ∀ i,(facesTo l es i).1.length≤i∧(0 < i→i≤(dartsE es).length→0 < (facesTo l es i).1.length)
  | 0 => ⟨Nat.le_refl _,fun h => absurd h (Nat.lt_irrefl _)⟩
  | i + 1 => by
    have ih:=facesTo_len l es i
    by_cases hi : i < (dartsE es).length
    · rw [facesTo_succ l es hi]
      unfold stepF
      split
      · rename_i hm
        refine ⟨by omega,fun _ _ => ?_⟩
        cases i with
        | zero => cases hm
        | succ i => exact ih.2 (by omega) (by omega)
      · simp only [List.length_append, List.length_cons, List.length_nil]
        exact ⟨by omega,fun _ _ => by omega⟩
    · have e : facesTo l es (i+1)=facesTo l es i:=by
        unfold facesTo
        rw [List.take_of_length_le (by omega),List.take_of_length_le (by omega)]
      rw [e]
      exact ⟨by omega,fun _ h => by omega⟩
theorem fresh_face {l : List Vx} {es : List Ed} (h : WF l es) {x : Dart} (hx : x∈allR l) {told : List Dart} (ht : ∀ y∈told,y∈allR l∧phiD l y∈told) (hxt : x∉told) : ∀ y∈trD l x,y∉told:=fun y hy hyt => by
  have hlen : (allR l).length≤100:=by rw [h.many]; have:=h.le; omega
  have hcy:=(phiD_oo h.pr).orb_cy hx hlen
  exact hxt (hcy.within (S:=fun z => z∈told) (fun z hz => (ht z hz).2) hy hyt x (orb_self _ _ _))
theorem faces_l1 {l : List Vx} {es : List Ed} (h : WF l es) : E (cs F) 0 f85_l1 (⟨(upd (upd (upd (upd (upd (upd Sx.e0 13 (.v (.int .i64 (0)))) 12 (.v (.int .i64 (((dartsE es).length : Int))))) 11 (.s 11 0 (dartsE es).length)) 4 (.p 4 0)) 3 (.v (.sl (.tight 37) 1 []))) 1 (.p 1 0)),(upd (upd (upd (upd Sx.h0 10256 (some (.map false true false []))) 11 (some (.arr false 56 3 (rowsBy Dart.c (dartsE es))))) 4 (some (.var false [.m 10256]))) 1 (some (.var false [(.v (.sl .shared 5 (rowsBy Vx.c l))),(.v (.sl .shared 4 (rowsBy Ed.c es)))])))⟩ : St) =
    some (if (dartsE es).length=0 then (.exit 0,(⟨(upd Sx.e0 3 (.v (.sl (.tight 37) 1 []))),Sx.h0⟩ : St)) else (.exit 0,(⟨(upd Sx.e0 3 (.s 3 0 (facesD l es).length)),(upd Sx.h0 3 (some (.arr false 37 1 (rowsBy rowF (facesD l es)))))⟩ : St))):=by
  have hb : bodyOf (F 101)=some f101.body:=rfl
  have hle : (dartsE es).length≤80:=by rw [dartsE_len]; have:=h.le; omega
  have hw : (dartsE es).length≤9223372036854775807:=by omega
  have hall : ∀ i (hi : i < (dartsE es).length),(dartsE es)[i]∈allR l:=fun i hi => (h.mem _).2 (List.getElem_mem hi)
  rw [← facesTo_all l es]
  have l1 : E (cs F) 0 f85_l1 (⟨(upd (upd (upd (upd (upd (upd Sx.e0 13 (.v (.int .i64 (0)))) 12 (.v (.int .i64 (((dartsE es).length : Int))))) 11 (.s 11 0 (dartsE es).length)) 4 (.p 4 0)) 3 (.v (.sl (.tight 37) 1 []))) 1 (.p 1 0)),(upd (upd (upd (upd Sx.h0 10256 (some (.map false true false []))) 11 (some (.arr false 56 3 (rowsBy Dart.c (dartsE es))))) 4 (some (.var false [.m 10256]))) 1 (some (.var false [(.v (.sl .shared 5 (rowsBy Vx.c l))),(.v (.sl .shared 4 (rowsBy Ed.c es)))])))⟩ : St)=some (if (dartsE es).length=0 then (.exit 0,(⟨(upd Sx.e0 3 (.v (.sl (.tight 37) 1 []))),Sx.h0⟩ : St)) else (.exit 0,(⟨(upd Sx.e0 3 (.s 3 0 (facesTo l es (dartsE es).length).1.length)),(upd Sx.h0 3 (some (.arr false 37 1 (rowsBy rowF (facesTo l es (dartsE es).length).1))))⟩ : St))):=by
    refine loop_grow (b:=f85_b1) _ (fun q0 => (⟨(upd (upd (upd (upd (upd (upd Sx.e0 13 (.v (.int .i64 ((q0 : Int))))) 12 (.v (.int .i64 (((dartsE es).length : Int))))) 11 (.s 11 0 (dartsE es).length)) 4 (.p 4 0)) 3 (.s 3 0 (facesTo l es q0).1.length)) 1 (.p 1 0)),(upd (upd (upd (upd (upd Sx.h0 10256 (some (.map false true false (mapD (facesTo l es q0).2)))) 11 (some (.arr false 56 3 (rowsBy Dart.c (dartsE es))))) 4 (some (.var false [.m 10256]))) 3 (some (.arr false 37 1 (rowsBy rowF (facesTo l es q0).1)))) 1 (some (.var false [(.v (.sl .shared 5 (rowsBy Vx.c l))),(.v (.sl .shared 4 (rowsBy Ed.c es)))])))⟩ : St)) ((dartsE es).length) ?_ (by simp) ?_ ?_ ?_ (by simp)
    · intro h0
      simp only [f85_b1,show decide ((0 : Int) < ((dartsE es).length : Int))=false from decide_eq_false (by omega),go_sem,seval]
    · intro hn
      have e1 : facesTo l es 1=([trD l (dartsE es)[0]],trD l (dartsE es)[0]):=by
        have:=facesTo_succ l es (i:=0) hn
        rw [Nat.zero_add] at this
        rw [this]; unfold stepF
        have e0 : facesTo l es 0=([],[]):=rfl
        rw [e0,if_neg (by simp)]; rfl
      have d1 : decide ((0 : Int) < ((dartsE es).length : Int))=true:=decide_eq_true (by omega)
      have h1z : (0 : Int) < ((dartsE es).length : Int):=by omega
      have hx:=hall 0 hn
      have hg:=rowsBy_get Dart.c hn
      rw [e1]
      have cr:=i_round l es (dartsE es)[0]
      have al:=faces_loop h hx [] (fun y _ => by simp) (.v (.sl (.tight 37) 1 [])) none (.inl ⟨rfl,rfl⟩) (dartsE es) 0 (.v (.fn 101 [pcD (dartsE es)[0],pcG l es]))
      rw [List.nil_append] at al
      have e3 : rowsBy rowF [trD l (dartsE es)[0]]=[[.sl .shared 3 (rowsBy Dart.c (trD l (dartsE es)[0]))]]:=rfl
      rw [e3]
      generalize dartsE es=D at *
      generalize D[0]=x at *
      generalize trD l x=t at *
      have f1:=find_mapD x []
      simp only [asE,faR,pcD,pcG,obD,mapD,List.map_nil,keyL] at al cr f1 ⊢
      simp only [nat0,go_sem,seval] at al
      simp only [f85_b1,f101,hb,d1,h1z,hg,Dart.c,cr,al,f1,Nat.reduceLT,List.not_mem_nil,if_false,nat0,show IntKind.i64.wrap 1=1 from rfl,go_sem,seval]
    · intro i hi0 hi
      have h1z : (i : Int) < ((dartsE es).length : Int):=by omega
      have hx:=hall i hi
      have hg:=rowsBy_get Dart.c hi
      have ht:=facesTo_told h i
      have hfl:=facesTo_len l es i
      have hs:=facesTo_succ l es hi
      by_cases hm : (dartsE es)[i]∈(facesTo l es i).2
      · have e1 : facesTo l es (i + 1) = facesTo l es i := by rw [hs]; unfold stepF; rw [if_pos hm]
        rw [e1]
        generalize dartsE es=D at *
        generalize facesTo l es i=q at *
        have f1:=find_mapD D[i] q.2
        rw [if_pos hm] at f1
        simp only [keyL] at f1
        simp only [f85_b1,dec_lt hi,h1z,hg,Dart.c,f1,wrap_succ hi hw,go_sem,seval]
      · have e1 : facesTo l es (i + 1) = ((facesTo l es i).1 ++ [trD l (dartsE es)[i]], (facesTo l es i).2 ++ trD l (dartsE es)[i]) := by rw [hs]; unfold stepF; rw [if_neg hm]; rfl
        rw [e1]
        have cr:=i_round l es (dartsE es)[i]
        have al:=faces_loop h hx (facesTo l es i).2 (fresh_face h hx ht hm) (.s 3 0 (facesTo l es i).1.length) (some (.arr false 37 1 (rowsBy rowF (facesTo l es i).1))) (.inr ⟨_,rfl,rfl⟩) (dartsE es) i (.v (.fn 101 [pcD (dartsE es)[i],pcG l es]))
        have hfl2 : (facesTo l es i).1.length≤80:=by omega
        generalize dartsE es=D at *
        generalize facesTo l es i=q at *
        obtain ⟨fs,told⟩:=q
        simp only at hfl2 hm al ⊢
        generalize trD l D[i]=t at *
        have f1:=find_mapD D[i] told
        rw [if_neg hm] at f1
        have e3 : rowsBy rowF fs++[[.sl .shared 3 (rowsBy Dart.c t)]]=rowsBy rowF (fs++[t]):=rowsBy_snoc rowF fs t
        have h5 : (fs.length+1) * 24≤140737488355328:=by omega
        generalize D[i]=x at *
        simp only [asE,faR,pcD,pcG,obD,keyL] at al cr f1 ⊢
        simp only [f85_b1,f101,hb,dec_lt hi,h1z,hg,Dart.c,cr,al,f1,Nat.reduceLT,h5,e3,wrap_succ hi hw,List.length_append,go_sem,seval]
    · intro hn
      simp only [f85_b1,dec_ge (Nat.le_refl (dartsE es).length),go_sem,seval]
  exact l1
theorem facesD_nil {l : List Vx} {es : List Ed} (h : (dartsE es).length=0) : facesD l es=[]:=by
  unfold facesD; rw [List.eq_nil_of_length_eq_zero h]; rfl
theorem i_Faces {l : List Vx} {es : List Ed} (h : WF l es) : call F 85 [.agg [.sl .shared 5 (rowsBy Vx.c l),.sl .shared 4 (rowsBy Ed.c es)]]=some (.sl (.own 37) 1 (rowsBy rowF (facesD l es))):=by
  have cd:=i_face_Darts (.sl .shared 5 (rowsBy Vx.c l)) es (by have:=h.le; omega)
  have fl:=faces_l1 h
  have h0:=facesD_nil (l:=l) (es:=es)
  generalize dartsE es=D at *
  generalize facesD l es=fs at *
  rw [call_code F (show F 85=some (.code f85) from rfl)]
  by_cases hz : D.length=0
  · rw [if_pos hz] at fl
    have hD:=List.eq_nil_of_length_eq_zero hz
    subst hD
    rw [h0 rfl]
    simp only [rowsBy,List.length_nil,nat0] at cd fl
    simp only [f85,cd,fl,rowsBy,nat0,go_sem,seval]
  · rw [if_neg hz] at fl
    simp only [f85,cd,fl,go_sem,seval]
end Go.Proofs.Ytcecojdeljbjoaa.Sx
namespace Go.Proofs.Ytcecojdeljbjoaa.Sx
def spr1 (f : List Nat) (e : Nat × Nat) : List Nat:=(f.set e.1 (min (fat f e.1) (fat f e.2))).set e.2 (min (fat f e.1) (fat f e.2))
def spr (es : List (Nat × Nat)) (f : List Nat) : List Nat:=es.foldl spr1 f
def sprK (es : List (Nat × Nat)) (f : List Nat) : Nat→List Nat
  | 0 => f
  | k+1 => spr es (sprK es f k)
theorem spr1_len (f : List Nat) (e : Nat × Nat) : (spr1 f e).length=f.length:=by unfold spr1; rw [List.length_set,List.length_set]
theorem spr_len : ∀ (es : List (Nat × Nat)) (f : List Nat),(spr es f).length=f.length
  | [],_ => rfl
  | e :: es, f => by
    show (spr es (spr1 f e)).length=_
    rw [spr_len es,spr1_len]
theorem spr1_at {f : List Nat} {e : Nat × Nat} (h1 : e.1 < f.length) (h2 : e.2 < f.length) (u : Nat) : fat (spr1 f e) u=if u=e.1∨u=e.2 then min (fat f e.1) (fat f e.2) else fat f u:=by
  unfold spr1
  rw [fat_set (by rw [List.length_set]; exact h2),fat_set h1]
  by_cases a : u=e.2
  · rw [if_pos a,if_pos (.inr a)]
  · rw [if_neg a]
    by_cases b : u=e.1
    · rw [if_pos b,if_pos (.inl b)]
    · rw [if_neg b,if_neg (by simp [a,b])]
theorem spr1_le {f : List Nat} {e : Nat × Nat} (h1 : e.1 < f.length) (h2 : e.2 < f.length) (u : Nat) : fat (spr1 f e) u≤fat f u:=by
  rw [spr1_at h1 h2]
  split
  · rename_i h
    rcases h with rfl | rfl
    · exact Nat.min_le_left _ _
    · exact Nat.min_le_right _ _
  · exact Nat.le_refl _
def InE (n : Nat) (es : List (Nat × Nat)) : Prop:=∀ e∈es,e.1 < n∧e.2 < n
theorem spr_le : ∀ {es : List (Nat × Nat)} {f : List Nat},InE f.length es→∀ u,fat (spr es f) u≤fat f u
  | [],_,_,_ => Nat.le_refl _
  | e :: es, f, h, u => by
    have he:=h e (by simp)
    have:=spr_le (es:=es) (f:=spr1 f e) (fun x hx => by rw [spr1_len]; exact h x (by simp [hx])) u
    exact Nat.le_trans this (spr1_le he.1 he.2 u)
theorem spr_append (s t : List (Nat × Nat)) (f : List Nat) : spr (s++t) f=spr t (spr s f):=List.foldl_append
theorem spr_edge {es : List (Nat × Nat)} {f : List Nat} (h : InE f.length es) {e : Nat × Nat} (he : e∈es) : fat (spr es f) e.1≤fat f e.2∧fat (spr es f) e.2≤fat f e.1:=by
  obtain ⟨s,t,rfl⟩:=List.append_of_mem he
  have hs : InE f.length s:=fun x hx => h x (by simp [hx])
  have ht : InE f.length t:=fun x hx => h x (by simp [hx])
  have h0:=h e (by simp)
  rw [spr_append]
  show fat (spr t (spr1 (spr s f) e)) e.1≤_∧fat (spr t (spr1 (spr s f) e)) e.2≤_
  have hl:=spr_len s f
  have k:=fun u => spr_le (es:=t) (f:=spr1 (spr s f) e) (by rw [spr1_len,hl]; exact ht) u
  have k1:=k e.1
  have k2:=k e.2
  rw [spr1_at (by rw [hl]; exact h0.1) (by rw [hl]; exact h0.2),if_pos (.inl rfl)] at k1
  rw [spr1_at (by rw [hl]; exact h0.1) (by rw [hl]; exact h0.2),if_pos (.inr rfl)] at k2
  have a1:=spr_le hs e.1
  have a2:=spr_le hs e.2
  omega
structure SprI (R : Nat→Nat→Prop) (n : Nat) (f : List Nat) : Prop where
  len : f.length=n
  con : ∀ u,u < n→Con R u (fat f u)
section
variable {R : Nat→Nat→Prop} {n : Nat}
theorem SprI.start (R : Nat→Nat→Prop) (n : Nat) : SprI R n (List.range n):=by
  refine ⟨List.length_range,fun u hu => ?_⟩
  rw [fat_at (by rw [List.length_range]; exact hu),List.getElem_range]
  exact .refl _
theorem SprI.one (hs : ∀ u v,R u v→R v u) {f : List Nat} (h : SprI R n f) {e : Nat × Nat} (h1 : e.1 < n) (h2 : e.2 < n) (hr : R e.1 e.2) : SprI R n (spr1 f e):=by
  refine ⟨by rw [spr1_len]; exact h.len,fun u hu => ?_⟩
  rw [spr1_at (by rw [h.len]; exact h1) (by rw [h.len]; exact h2)]
  have c1:=h.con e.1 h1
  have c2:=h.con e.2 h2
  have c12 : Con R e.1 e.2:=.one hr
  have c21 : Con R e.2 e.1:=.one (hs _ _ hr)
  split
  · rename_i hu
    rcases Nat.le_total (fat f e.1) (fat f e.2) with hle | hle
    · rw [Nat.min_eq_left hle]
      rcases hu with rfl | rfl
      · exact c1
      · exact c21.trans c1
    · rw [Nat.min_eq_right hle]
      rcases hu with rfl | rfl
      · exact c12.trans c2
      · exact c2
  · exact h.con u hu
theorem SprI.round (hs : ∀ u v,R u v→R v u) : ∀ {es : List (Nat × Nat)} {f : List Nat},SprI R n f→(∀ e∈es,e.1 < n∧e.2 < n∧R e.1 e.2)→SprI R n (spr es f)
  | [],_,h,_ => h
  | e :: es, f, h, he => by
    obtain ⟨h1,h2,h3⟩:=he e (by simp)
    have k : SprI R n (spr1 f e):=h.one hs h1 h2 h3
    exact SprI.round (f:=spr1 f e) hs k fun x hx => he x (by simp [hx])
theorem countP_lt {α : Type} {p q : α→Bool} : ∀ {l : List α},(∀ u∈l,p u=true→q u=true)→(∃ a∈l,p a=false∧q a=true)→l.countP p < l.countP q
  | [],_,h => by obtain ⟨a,ha,_⟩:=h; cases ha
  | x :: l, h, he => by
    have h0 : l.countP p≤l.countP q:=List.countP_mono_left fun u hu => h u (by simp [hu])
    have hx:=h x (by simp)
    obtain ⟨a,ha,h1,h2⟩:=he
    rcases List.mem_cons.1 ha with rfl | ha
    · rw [List.countP_cons,List.countP_cons,h1,h2]; simp; omega
    · have := countP_lt (l := l) (fun u hu => h u (by simp [hu])) ⟨a, ha, h1, h2⟩
      rw [List.countP_cons,List.countP_cons]
      cases hp : p x with
      | false => simp; omega
      | true => rw [hx hp]; simp; omega
theorem Con.edge {P : Nat→Prop} {u w : Nat} (h : Con R u w) (hu : P u) (hw : ¬ P w) : ∃ a b,R a b∧Con R u a∧P a∧¬ P b:=by
  induction h with
  | refl => exact absurd hu hw
  | @step u v w a _ ih =>
    by_cases hv : P v
    · obtain ⟨x, y, h1, h2, h3, h4⟩ := ih hv hw
      exact ⟨x,y,h1,.step a h2,h3,h4⟩
    · exact ⟨u,v,a,.refl _,hu,hv⟩
theorem spr_all (hs : ∀ u v,R u v→R v u) (hb : ∀ u v,R u v→u < n∧v < n) {es : List (Nat × Nat)} (he : ∀ e∈es,e.1 < n∧e.2 < n∧R e.1 e.2) (hr : ∀ u v,R u v→(u,v)∈es∨(v,u)∈es)
    {lab : Nat→Nat} (hl : Lab R n lab) : sprK es (List.range n) n=(List.range n).map lab:=by
  have hin : InE n es:=fun e h => ⟨(he e h).1,(he e h).2.1⟩
  have hinv : ∀ k,SprI R n (sprK es (List.range n) k):=by
    intro k
    induction k with
    | zero => exact SprI.start R n
    | succ k ih => exact ih.round hs he
  have hge : ∀ k u,u < n→lab u≤fat (sprK es (List.range n) k) u:=fun k u hu => hl.le u hu _ ((hinv k).con u hu)
  have hdown : ∀ k u,fat (sprK es (List.range n) (k+1)) u≤fat (sprK es (List.range n) k) u:=fun k u => spr_le (by rw [(hinv k).len]; exact hin) u
  have hroot : ∀ k u,u < n→lab u=u→fat (sprK es (List.range n) k) u=u:=by
    intro k
    induction k with
    | zero =>
      intro u hu _
      show fat (List.range n) u=u
      rw [fat_at (by rw [List.length_range]; exact hu),List.getElem_range]
    | succ k ih =>
      intro u hu hlu
      have h1:=hdown k u
      have h2:=hge (k+1) u hu
      have h3:=ih u hu hlu
      omega
  have hgood : ∀ k,(∀ u,u < n→fat (sprK es (List.range n) k) u=lab u)∨k≤(List.range n).countP fun u => decide (fat (sprK es (List.range n) k) u=lab u):=by
    intro k
    induction k with
    | zero => exact .inr (Nat.zero_le _)
    | succ k ih =>
      rcases ih with ih | ih
      · refine .inl fun u hu => ?_
        have h1:=hdown k u
        have h2:=hge (k+1) u hu
        have h3:=ih u hu
        omega
      · by_cases hall : ∀ u, u < n → fat (sprK es (List.range n) k) u = lab u
        · refine .inl fun u hu => ?_
          have h1:=hdown k u
          have h2:=hge (k+1) u hu
          have h3:=hall u hu
          omega
        · right
          obtain ⟨u,hu⟩:=Classical.not_forall.1 hall
          obtain ⟨hun,hu⟩:=Classical.not_imp.1 hu
          have hlu:=hl.self hun
          have hidem:=hl.idem hs hun
          obtain ⟨a,b,h1,h2,h3,h4⟩:=Con.edge (P:=fun v => fat (sprK es (List.range n) k) v=lab v) ((hl.con u hun).symm hs) (by
            show fat _ (lab u)=lab (lab u)
            rw [hidem]; exact hroot k _ (by omega) hidem) hu
          obtain ⟨ha,hbn⟩:=hb a b h1
          have hlab : lab a=lab b:=(hl.eq hs ha hbn).1 (.one h1)
          have hnew : fat (sprK es (List.range n) (k+1)) b=lab b:=by
            have h5:=hge (k+1) b hbn
            have h3 : fat (sprK es (List.range n) k) a=lab a:=h3
            have : fat (sprK es (List.range n) (k+1)) b≤fat (sprK es (List.range n) k) a:=by
              rcases hr a b h1 with h | h
              · exact (spr_edge (by rw [(hinv k).len]; exact hin) h).2
              · exact (spr_edge (by rw [(hinv k).len]; exact hin) h).1
            omega
          have:=countP_lt (l:=List.range n) (p:=fun u => decide (fat (sprK es (List.range n) k) u=lab u)) (q:=fun u => decide (fat (sprK es (List.range n) (k+1)) u=lab u)) (fun v hv hp => by
            have hvn:=List.mem_range.1 hv
            have hp:=of_decide_eq_true hp
            refine decide_eq_true ?_
            have h1:=hdown k v
            have h2:=hge (k+1) v hvn
            omega) ⟨b,List.mem_range.2 hbn,decide_eq_false h4,decide_eq_true hnew⟩
          omega
  have hn : ∀ u,u < n→fat (sprK es (List.range n) n) u=lab u:=by
    rcases hgood n with h | h
    · exact h
    · intro u hu
      have hle:=List.countP_le_length (p:=fun u => decide (fat (sprK es (List.range n) n) u=lab u)) (l:=List.range n)
      rw [List.length_range] at hle
      have e : (List.range n).countP (fun u => decide (fat (sprK es (List.range n) n) u=lab u))=(List.range n).length:=by rw [List.length_range]; omega
      exact of_decide_eq_true (List.countP_eq_length.1 e u (List.mem_range.2 hu))
  refine List.ext_getElem (by rw [(hinv n).len,List.length_map,List.length_range]) fun i h1 h2 => ?_
  have hin : i < n:=by rw [(hinv n).len] at h1; exact h1
  rw [List.getElem_map,List.getElem_range,← hn i hin,fat_at h1]
end
end Go.Proofs.Ytcecojdeljbjoaa.Sx
namespace Go.Proofs.Ytcecojdeljbjoaa.Sx
open Go
def dpl (l : List Vx) (x : Dart) : Nat:=l.findIdx fun v => decide (x∈v.ring)
theorem WF.labok {l : List Vx} {es : List Ed} (h : WF l es) : LabOk l:=by
  refine ⟨⟨by have:=h.lv; omega,fun v hv => ?_⟩,h.nd,h.pr.oth,fun x hx => ?_⟩
  · have h1 : v.ring.length ≤ (allR l).length := List.Sublist.length_le (List.sublist_flatten_of_mem (List.mem_map.2 ⟨v, hv, rfl⟩))
    have h2:=h.many
    have h3:=h.le
    omega
  · obtain ⟨e, _, h1 | h1⟩ := dartsE_mem.1 ((h.mem x).1 hx)
    · exact .inl (by rw [h1])
    · exact .inr (by rw [h1])
/-! ### the reference's rounds -/
def edgP (l : List Vx) (es : List Ed) : List (Nat × Nat):=es.map fun e => (dpl l ⟨e.id,0⟩,dpl l ⟨e.id,1⟩)
theorem dpl_at {l : List Vx} {x : Dart} (hx : x∈allR l) : dpl l x < l.length∧x∈ringAt l (dpl l x):=by
  rcases findIdx_cases (fun v : Vx => decide (x∈v.ring)) l with h | ⟨h,k⟩
  · obtain ⟨v, hv, hxv⟩ := (allR_mem l x).1 hx
    obtain ⟨i,hi,rfl⟩:=List.mem_iff_getElem.1 hv
    have:=findIdx_not (p:=fun v : Vx => decide (x∈v.ring)) (l:=l) (i:=i) (by omega) hi
    simp at this
    exact absurd hxv this
  · refine ⟨h, ?_⟩
    show x∈ringAt l (l.findIdx fun v => decide (x∈v.ring))
    rw [ringAt_lt h]
    exact of_decide_eq_true k
theorem WF.edge_in {l : List Vx} {es : List Ed} (h : WF l es) {e : Ed} (he : e∈es) : (⟨e.id,0⟩ : Dart)∈allR l∧(⟨e.id,1⟩ : Dart)∈allR l :=
  ⟨(h.mem _).2 (dartsE_mem.2 ⟨e,he,.inl rfl⟩),(h.mem _).2 (dartsE_mem.2 ⟨e,he,.inr rfl⟩)⟩
theorem WF.edge_step {l : List Vx} {es : List Ed} (h : WF l es) {e : Ed} (he : e∈es) : dpl l ⟨e.id,0⟩ < l.length∧dpl l ⟨e.id,1⟩ < l.length∧stepV l (dpl l ⟨e.id,0⟩) (dpl l ⟨e.id,1⟩):=by
  obtain ⟨h0,h1⟩:=h.edge_in he
  obtain ⟨a1,a2⟩:=dpl_at h0
  obtain ⟨b1,b2⟩:=dpl_at h1
  exact ⟨a1,b1,⟨⟨e.id,0⟩,a2,b2⟩⟩
theorem stepV_bound {l : List Vx} (u w : Nat) (h : stepV l u w) : u < l.length∧w < l.length:=by
  obtain ⟨x,h1,h2⟩:=h
  exact ⟨ringAt_mem (u:=u) h1,ringAt_mem (u:=w) h2⟩
theorem WF.step_edge {l : List Vx} {es : List Ed} (h : WF l es) (u w : Nat) (hs : stepV l u w) : (u,w)∈edgP l es∨(w,u)∈edgP l es:=by
  obtain ⟨x,h1,h2⟩:=hs
  have hx : x∈allR l:=ringAt_all (u:=u) h1
  obtain ⟨e,he,hxe⟩:=dartsE_mem.1 ((h.mem x).1 hx)
  obtain ⟨h3,h4⟩:=h.edge_in he
  obtain ⟨_,a2⟩:=dpl_at h3
  obtain ⟨_,b2⟩:=dpl_at h4
  rcases hxe with rfl | rfl
  · have e1 := ringAt_one h.nd (u := u) h1 a2
    have e2:=ringAt_one h.nd (u:=w) h2 b2
    exact .inl (List.mem_map.2 ⟨e,he,by rw [e1,e2]⟩)
  · have e1 := ringAt_one h.nd (u := u) h1 b2
    have e2:=ringAt_one h.nd (u:=w) h2 a2
    exact .inr (List.mem_map.2 ⟨e,he,by rw [e1,e2]⟩)
theorem WF.rounds {l : List Vx} {es : List Ed} (h : WF l es) : sprK (edgP l es) (List.range l.length) l.length=(List.range l.length).map (labV l) :=
  spr_all stepV_symm stepV_bound (fun e he => by
    obtain ⟨f,hf,rfl⟩:=List.mem_map.1 he
    exact h.edge_step hf) h.step_edge (labV_lab l)
/-! ### parts -/
noncomputable def partsI (l : List Vx) : List (List ID):=partsTo (labV l) (idAt l) l.length
def cIDs (p : List ID) : List TV:=[.sl .shared 2 (rowsBy ID.c p)]
theorem partsT_eq (l : List Vx) : partsT l=.sl .shared 1 (rowsBy cIDs (partsI l)):=by
  unfold partsT partsL partsI partsTo
  rw [rowsBy_map,List.map_map,List.map_map]
  congr 1
  refine List.map_congr_left fun q _ => ?_
  show [TV.sl .shared 2 _]=[TV.sl .shared 2 _]
  rw [rowsBy_map,List.map_map]; rfl
theorem partsI_len (l : List Vx) : (partsI l).length=partsN (labV l) l.length:=by
  unfold partsI partsTo partsN
  rw [List.length_map,List.countP_eq_length_filter]; rfl
end Go.Proofs.Ytcecojdeljbjoaa.Sx
namespace Go.Proofs.Ytcecojdeljbjoaa.Sx
open Go
theorem i_Parts {l : List Vx} {es : List Ed} (h : WF l es) : call F 96 [.agg [.sl .shared 5 (rowsBy Vx.c l),.sl .shared 4 (rowsBy Ed.c es)]]=some (.sl .shared 1 (rowsBy cIDs (partsI l))):=by
  rw [call_ext F (show F 96=some (.ext partsG) from rfl),← partsT_eq]
  exact partsG_eq _ _ h.labok
theorem i_comp_Count {l : List Vx} {es : List Ed} (h : WF l es) : call F 86 [.agg [.sl .shared 5 (rowsBy Vx.c l),.sl .shared 4 (rowsBy Ed.c es)]]=some (.int .i64 (partsN (labV l) l.length : Nat)):=by
  have c1:=i_Parts h
  have hl:=partsI_len l
  rw [call_code F (show F 86=some (.code f86) from rfl)]
  simp only [f86,c1,hl,go_sem,seval]
end Go.Proofs.Ytcecojdeljbjoaa.Sx
namespace Go.Proofs.Ytcecojdeljbjoaa.Sx
open Go
theorem facesQ_dec {l : List Vx} {es : List Ed} (h : WF l es) : Dec (phiD l) (dartsE es) (facesD l es):=by
  have oo : OneOne (phiD l) (dartsE es):=⟨fun x hx => (h.mem _).1 ((phiD_oo h.pr).mem x ((h.mem x).2 hx)),fun x hx y hy => (phiD_oo h.pr).inj x ((h.mem x).2 hx) y ((h.mem y).2 hy)⟩
  exact oo.dec (by rw [dartsE_len]; have:=h.le; omega)
theorem Dec.onQ {f : Dart→Dart} {D D' : List Dart} {cs : List (List Dart)} (h : Dec f D cs) (e : ∀ x,x∈D↔x∈D') : Dec f D' cs:=⟨h.cy,h.nd,fun x => by rw [h.mem,e]⟩
theorem facesQ_all {l : List Vx} {es : List Ed} (h : WF l es) : Dec (phiD l) (allR l) (facesD l es):=(facesQ_dec h).onQ fun x => (h.mem x).symm
theorem facesQ_fits {l : List Vx} {es : List Ed} (h : WF l es) : (∀ p∈facesD l es,p.length≤80)∧(facesD l es).length≤80:=by
  have hd:=facesQ_dec h
  have hlen : (dartsE es).length≤80:=by rw [dartsE_len]; have:=h.le; omega
  have hfl : (facesD l es).flatten.length≤80:=Nat.le_trans (nodup_sub hd.nd fun x hx => (hd.mem x).1 hx) hlen
  refine ⟨fun p hp => Nat.le_trans (List.Sublist.length_le (List.sublist_flatten_of_mem hp)) hfl,?_⟩
  have key : ∀ cs : List (List Dart),(∀ c∈cs,c≠[])→cs.length≤cs.flatten.length:=by
    intro cs
    induction cs with
    | nil => intro _; exact Nat.le_refl _
    | cons c cs ih =>
      intro h
      rw [List.flatten_cons,List.length_append,List.length_cons]
      have:=ih fun d hd => h d (by simp [hd])
      have:=List.length_pos_iff.2 (h c (by simp))
      omega
  refine Nat.le_trans (key _ fun c hc e => ?_) hfl
  have:=hd.cy c hc
  rw [e] at this; cases this
noncomputable def cN (l : List Vx) : Nat:=partsN (labV l) l.length
def fN (l : List Vx) (es : List Ed) : Nat:=(facesD l es).length+aloneN l
noncomputable def gN (l : List Vx) (es : List Ed) : Nat:=(es.length+2 * cN l - l.length - fN l es) / 2
theorem WF.eul {l : List Vx} {es : List Ed} (h : WF l es) : Eul l l.length es.length (fN l es) (cN l):=⟨rfl,h.many.symm,⟨_,facesQ_all h,rfl⟩,⟨_,labV_lab l,rfl⟩⟩
theorem WF.gen {l : List Vx} {es : List Ed} (h : WF l es) : l.length+fN l es+2 * gN l es=es.length+2 * cN l:=by
  obtain ⟨g,hg⟩:=Eul.genus _ (Nat.le_refl _) h.pr h.eul
  unfold gN
  omega
theorem WF.small {l : List Vx} {es : List Ed} (h : WF l es) : fN l es≤104∧cN l≤24∧cN l≤fN l es∧cN l≤l.length:=by
  have h1:=(facesQ_fits h).2
  have h2:=h.lv
  have h3 : aloneN l≤l.length:=List.countP_le_length
  have h4 : cN l≤l.length:=partsN_le _ _
  have h5:=h.eul.faces_le h.pr
  refine ⟨by unfold fN; omega,by omega,h5.1,h4⟩
theorem i_Count1 (v : Vx) : call F 84 [.agg [.int .i64 v.id.s,.int .i64 v.id.n,.sl .shared 3 (rowsBy Dart.c v.ring),.str v.label,.int .i64 v.attr]]=some (.bool v.ring.isEmpty):=by
  have hd : decide ((v.ring.length : Int)=0)=v.ring.isEmpty:=by
    cases v.ring with
    | nil => rfl
    | cons x r => exact dec_f (by simp only [List.length_cons]; omega)
  rw [call_code F (show F 84=some (.code f84) from rfl)]
  simp only [f84,hd,go_sem,seval]
theorem aloneN_succ {l : List Vx} {i : Nat} (hi : i < l.length) : aloneN (l.take (i+1))=aloneN (l.take i)+if l[i].ring.isEmpty=true then 1 else 0:=by
  unfold aloneN
  rw [List.take_succ_eq_append_getElem hi,List.countP_append,List.countP_singleton]
theorem i_many (l : List Vx) (hl : l.length≤24) : call F 83 [.sl .shared 5 (rowsBy Vx.c l),.fn 84 []]=some (.int .i64 (aloneN l : Nat)):=by
  have l1 : E (cs F) 0 f83_l1 (⟨(upd (upd (upd (upd (upd Sx.e0 10 (.v (.int .i64 (0)))) 9 (.v (.int .i64 ((l.length : Int))))) 8 (.v (.sl .shared 5 (rowsBy Vx.c l)))) 5 (.v (.int .i64 ((aloneN (l.take 0) : Nat))))) 1 (.v (.fn 84 []))),Sx.h0⟩ : St)=some (.exit 0,(⟨(upd Sx.e0 5 (.v (.int .i64 ((aloneN l : Nat))))),Sx.h0⟩ : St)):=by
    refine loop_to (b:=f83_b1) (fun q0 => (⟨(upd (upd (upd (upd (upd Sx.e0 10 (.v (.int .i64 ((q0 : Int))))) 9 (.v (.int .i64 ((l.length : Int))))) 8 (.v (.sl .shared 5 (rowsBy Vx.c l)))) 5 (.v (.int .i64 ((aloneN (l.take q0) : Nat))))) 1 (.v (.fn 84 []))),Sx.h0⟩ : St)) (l.length) ?_ ?_ (by simp)
    · intro i hi
      have hiz : (i : Int) < (l.length : Int):=by omega
      have c1:=i_Count1 l[i]
      have ha : aloneN (l.take i)≤i:=Nat.le_trans List.countP_le_length (by rw [List.length_take]; omega)
      have hw:=wrap_succ (i:=aloneN (l.take i)) (n:=aloneN (l.take i)+1) (Nat.lt_succ_self _) (by omega)
      rw [aloneN_succ hi]
      generalize aloneN (l.take i)=m at *
      cases hb : l[i].ring.isEmpty with
      | true =>
        rw [hb] at c1
        rw [if_pos rfl]
        simp only [f83_b1,dec_lt hi,hiz,rowsBy_get Vx.c hi,Vx.c,c1,hw,wrap_succ hi (show l.length≤9223372036854775807 by omega),go_sem,seval]
      | false =>
        rw [hb] at c1
        rw [if_neg (by simp),Nat.add_zero]
        simp only [f83_b1,dec_lt hi,hiz,rowsBy_get Vx.c hi,Vx.c,c1,hw,wrap_succ hi (show l.length≤9223372036854775807 by omega),go_sem,seval]
    · rw [List.take_length]
      simp only [f83_b1,dec_ge (Nat.le_refl l.length),go_sem,seval]
  have e0 : aloneN (l.take 0)=0:=rfl
  simp only [e0,nat0] at l1
  rw [call_code F (show F 83=some (.code f83) from rfl)]
  simp only [f83,l1,go_sem,seval]
theorem i_euler_Count {l : List Vx} {es : List Ed} (h : WF l es) : call F 67 [.agg [.sl .shared 5 (rowsBy Vx.c l),.sl .shared 4 (rowsBy Ed.c es)]]=some (.tup [.int .i64 l.length,.int .i64 es.length,.int .i64 (fN l es : Nat),.int .i64 (cN l : Nat)]):=by
  have c1:=i_many l h.lv
  have c2:=i_Faces h
  have c3:=i_comp_Count h
  have hf:=h.small.1
  have w1 : IntKind.i64.wrap (((facesD l es).length : Int)+(aloneN l : Int))=(fN l es : Int):=by
    have e : (fN l es : Int)=((facesD l es).length : Int)+(aloneN l : Int):=by unfold fN; omega
    rw [wrap64 (by omega) (by omega),e]
  have e2 : partsN (labV l) l.length=cN l:=rfl
  rw [e2] at c3
  generalize fN l es=fn at *
  generalize cN l=cn at *
  generalize facesD l es=fs at *
  rw [call_code F (show F 67=some (.code f67) from rfl)]
  simp only [f67,c1,c2,c3,w1,go_sem,seval]
theorem i_euler_Genus {l : List Vx} {es : List Ed} (h : WF l es) : call F 52 [.agg [.sl .shared 5 (rowsBy Vx.c l),.sl .shared 4 (rowsBy Ed.c es)]]=some (.int .i64 (gN l es : Nat)):=by
  have c1:=i_euler_Count h
  have hg:=h.gen
  have hs:=h.small
  have hlv:=h.lv
  have hle:=h.le
  generalize fN l es=f at *
  generalize cN l=c at *
  generalize gN l es=g at *
  have w1 : IntKind.i64.wrap ((l.length : Int) - (es.length : Int))=(l.length : Int) - (es.length : Int):=wrap64 (by omega) (by omega)
  have w2 : IntKind.i64.wrap ((l.length : Int) - (es.length : Int)+(f : Int))=2 * ((c : Int) - (g : Int)):=by rw [wrap64 (by omega) (by omega)]; omega
  have td : (2 * ((c : Int) - (g : Int))).tdiv 2=(c : Int) - (g : Int):=Int.mul_tdiv_cancel_left _ (by decide)
  have w3 : IntKind.i64.wrap ((c : Int) - (g : Int))=(c : Int) - (g : Int):=wrap64 (by omega) (by omega)
  have w4 : IntKind.i64.wrap ((c : Int) - ((c : Int) - (g : Int)))=(g : Int):=by rw [wrap64 (by omega) (by omega)]; omega
  rw [call_code F (show F 52=some (.code f52) from rfl)]
  simp only [f52,c1,w1,w2,td,w3,w4,go_sem,seval]
theorem i_Planar {l : List Vx} {es : List Ed} (h : WF l es) : call F 36 [.agg [.sl .shared 5 (rowsBy Vx.c l),.sl .shared 4 (rowsBy Ed.c es)]]=some (.bool (decide (gN l es=0))):=by
  have c1:=i_euler_Genus h
  have hd : decide (((gN l es : Nat) : Int)=0)=decide (gN l es=0):=by rw [decide_eq_decide]; omega
  generalize gN l es=g at *
  rw [call_code F (show F 36=some (.code f36) from rfl)]
  simp only [f36,c1,hd,go_sem,seval]
noncomputable def mayC (l : List Vx) (es : List Ed) : Int:=if formC l es=0 then (if gN l es=0 then 0 else 11) else formC l es
theorem i_euler_May (l : List Vx) (es : List Ed) (hr : FitsR l) : call F 24 [.agg [.sl .shared 5 (rowsBy Vx.c l),.sl .shared 4 (rowsBy Ed.c es)]]=some (.int .i64 (mayC l es)):=by
  have c1:=i_diagram_Form l es hr
  unfold mayC
  by_cases hf : formC l es=0
  · have h := (formC_ok.1 hf).1
    have c2:=i_Planar h
    rw [hf] at c1
    rw [if_pos hf]
    by_cases hg : gN l es=0
    · rw [if_pos hg]
      rw [dec_t hg] at c2
      rw [call_code F (show F 24=some (.code f24) from rfl)]
      simp only [f24,c1,c2,go_sem,seval]
    · rw [if_neg hg]
      rw [dec_f hg] at c2
      rw [call_code F (show F 24=some (.code f24) from rfl)]
      simp only [f24,c1,c2,go_sem,seval]
  · have hd : decide (¬ formC l es = 0) = true := dec_t hf
    rw [if_neg hf]
    generalize formC l es=c at *
    rw [call_code F (show F 24=some (.code f24) from rfl)]
    simp only [f24,c1,hd,go_sem,seval]
end Go.Proofs.Ytcecojdeljbjoaa.Sx
namespace Go.Proofs.Ytcecojdeljbjoaa.Sx
open Go
def edB (x : ID) (s : ByteArray) (n : Int) : List UInt8:=putI x++textB s++numB n
def plE (es : List Ed) (x : ID) : Nat:=if es.findIdx (fun e => decide (e.id=x))=es.length then 0 else es.findIdx fun e => decide (e.id=x)
def dartB (es : List Ed) (x : Dart) : UInt8:=u8 ((plE es x.e : Int)+128 * x.d)
def vxB (es : List Ed) (v : Vx) : List UInt8:=edB v.id v.label v.attr++u8 v.ring.length :: v.ring.map (dartB es)
def edsB (es : List Ed) : List UInt8:=es.flatMap fun e => edB e.id e.label e.attr
def vxsB (es : List Ed) (l : List Vx) : List UInt8:=l.flatMap (vxB es)
def putD (l : List Vx) (es : List Ed) : List UInt8:=u8 es.length :: (edsB es++u8 l.length :: vxsB es l)
/-! ### taken -/
def thingP (b : List UInt8) : Ed × List UInt8 × Bool :=
  (⟨(takeI b).1,(takeX (takeI b).2.1).1,(takeN (takeX (takeI b).2.1).2.1).1⟩,(takeN (takeX (takeI b).2.1).2.1).2.1,(takeI b).2.2 && ((takeX (takeI b).2.1).2.2 && (takeN (takeX (takeI b).2.1).2.1).2.2))
def takeEs : Nat→List UInt8→Option (List Ed × List UInt8)
  | 0,b => some ([],b)
  | n+1,b => if (thingP b).2.2=true then (takeEs n (thingP b).2.1).map fun p => ((thingP b).1 :: p.1,p.2) else none
def dartP (es : List Ed) (c : UInt8) : Option Dart:=match es[c.toNat % 128]? with
  | some e => some ⟨e.id,(c.toNat / 128 : Nat)⟩
  | none => none
def dartsP (es : List Ed) : List UInt8→Option (List Dart)
  | [] => some []
  | c :: r => match dartP es c, dartsP es r with
    | some x,some xs => some (x :: xs)
    | _,_ => none
def vertP (es : List Ed) (b : List UInt8) : Option (Vx × List UInt8):=if (thingP b).2.2=true∧(takeC (thingP b).2.1).2.2=true then (dartsP es (takeC (thingP b).2.1).1).map fun r => (⟨(thingP b).1.id,r,(thingP b).1.label,(thingP b).1.attr⟩,(takeC (thingP b).2.1).2.1) else none
def takeVs (es : List Ed) : Nat→List UInt8→Option (List Vx × List UInt8)
  | 0,b => some ([],b)
  | n + 1, b => match vertP es b with
    | some (v,r) => (takeVs es n r).map fun p => (v :: p.1,p.2)
    | none => none
def vertsP (es : List Ed) (b : List UInt8) : Option (List Vx):=match b with
  | [] => none
  | m :: r => (takeVs es m.toNat r).map Prod.fst
def parseD (b : List UInt8) : Option (List Vx × List Ed):=match b with
  | [] => none
  | n :: r => match takeEs n.toNat r with
    | some (es,r) => (vertsP es r).map fun l => (l,es)
    | none => none
open Classical in
noncomputable def takeD (b : List UInt8) : Option (List Vx × List Ed):=match parseD b with
  | some (l,es) => if mayC l es=0∧putD l es=b then some (l,es) else none
  | none => none
/-! ### back -/
theorem thing_back {x : ID} {s : ByteArray} {n : Int} (hx : mayI x=true) (hs : s.size≤255) (h1 : -9223372036854775808≤n) (h2 : n≤9223372036854775807) (r : List UInt8) : thingP (edB x s n++r)=(⟨x,s,n⟩,r,true):=by
  have e1 : takeI (edB x s n++r)=(x,textB s++(numB n++r),true):=by
    unfold edB
    rw [List.append_assoc,List.append_assoc]
    exact takeI_put hx _
  have e2:=takeX_text hs (numB n++r)
  have e3:=takeN_num h1 h2 r
  unfold thingP
  rw [e1]
  simp only []
  rw [e2]
  simp only []
  rw [e3]
  rfl
structure Fit8 (l : List Vx) (es : List Ed) : Prop where
  wf : WF l es
  el : ∀ e∈es,e.label.size≤255∧-9223372036854775808≤e.attr∧e.attr≤9223372036854775807
  vl : ∀ v∈l,v.label.size≤255∧-9223372036854775808≤v.attr∧v.attr≤9223372036854775807
theorem fit8_of {l : List Vx} {es : List Ed} (h : formC l es=0) : Fit8 l es:=by
  obtain ⟨hw,h1,h2⟩:=formC_ok.1 h
  unfold labB at h1
  unfold attB at h2
  rw [Bool.or_eq_false_iff,List.any_eq_false,List.any_eq_false] at h1 h2
  have key : ∀ (s : ByteArray) (n : Int),¬ (!mayLab s)=true→¬ (!mayAtt n)=true→s.size≤255∧-9223372036854775808≤n∧n≤9223372036854775807:=fun s n a b => by
    simp only [Bool.not_eq_true',Bool.not_eq_false] at a b
    unfold mayLab at a
    unfold mayAtt at b
    simp only [Bool.and_eq_true,decide_eq_true_eq] at a b
    omega
  exact ⟨hw,fun e he => key _ _ (h1.2 e he) (h2.2 e he),fun v hv => key _ _ (h1.1 v hv) (h2.1 v hv)⟩
theorem takeEs_back : ∀ {es : List Ed} (r : List UInt8),(∀ e∈es,mayI e.id=true∧e.label.size≤255∧-9223372036854775808≤e.attr∧e.attr≤9223372036854775807)→takeEs es.length (edsB es++r)=some (es,r)
  | [],r,_ => rfl
  | e :: es, r, h => by
    obtain ⟨h1,h2,h3,h4⟩:=h e (by simp)
    have ht:=thing_back h1 h2 h3 h4 (edsB es++r)
    have e1 : edsB (e :: es)++r=edB e.id e.label e.attr++(edsB es++r):=by unfold edsB; rw [List.flatMap_cons,List.append_assoc]
    rw [e1,List.length_cons]
    unfold takeEs
    rw [ht]
    simp only [if_true]
    rw [takeEs_back r fun f hf => h f (by simp [hf])]
    rfl
theorem takeC_back {c : List UInt8} (h : c.length≤255) (r : List UInt8) : takeC (u8 c.length :: (c++r))=(c,r,true):=by
  show (if (c++r).length < (u8 c.length).toNat then _ else _)=_
  rw [u8_nat h,if_neg (by rw [List.length_append]; omega),List.take_left,List.drop_left]
theorem plE_at {es : List Ed} (hn : (es.map Ed.id).Nodup) {e : Ed} (he : e∈es) : plE es e.id < es.length∧es[plE es e.id]?=some e:=by
  rcases findIdx_cases (fun f : Ed => decide (f.id=e.id)) es with h | ⟨h,k⟩
  · obtain ⟨i, hi, rfl⟩ := List.mem_iff_getElem.1 he
    have:=findIdx_not (p:=fun f : Ed => decide (f.id=es[i].id)) (l:=es) (i:=i) (by omega) hi
    simp at this
  · have e1 : plE es e.id = es.findIdx fun f => decide (f.id = e.id) := by unfold plE; rw [if_neg (by omega)]
    rw [e1]
    refine ⟨h,?_⟩
    rw [List.getElem?_eq_getElem h]
    congr 1
    exact inj_of_nodup hn (List.getElem_mem h) he (of_decide_eq_true k)
theorem dart_back {l : List Vx} {es : List Ed} (h : WF l es) {x : Dart} (hx : x∈allR l) : dartP es (dartB es x)=some x:=by
  obtain ⟨e,he,hxe⟩:=dartsE_mem.1 ((h.mem x).1 hx)
  obtain ⟨h1,h2⟩:=plE_at h.se.nodup he
  have hle:=h.le
  have key : ∀ d : Int,d=0∨d=1→dartP es (dartB es ⟨e.id,d⟩)=some ⟨e.id,d⟩:=fun d hd => by
    have hn : ((dartB es ⟨e.id,d⟩).toNat : Int)=(plE es e.id : Int)+128 * d:=by
      have:=u8_toNat ((plE es e.id : Int)+128 * d)
      show ((u8 ((plE es e.id : Int)+128 * d)).toNat : Int)=_
      omega
    have m : (dartB es ⟨e.id,d⟩).toNat % 128=plE es e.id:=by omega
    have q : ((((dartB es ⟨e.id,d⟩).toNat / 128 : Nat)) : Int)=d:=by omega
    unfold dartP
    rw [m,h2]
    simp only [q]
  rcases hxe with rfl | rfl
  · exact key 0 (.inl rfl)
  · exact key 1 (.inr rfl)
theorem darts_back {l : List Vx} {es : List Ed} (h : WF l es) : ∀ {r : List Dart},(∀ x∈r,x∈allR l)→dartsP es (r.map (dartB es))=some r
  | [],_ => rfl
  | x :: r, hr => by
    show (match dartP es (dartB es x),dartsP es (r.map (dartB es)) with | some x,some xs => some (x :: xs) | _,_ => none)=_
    rw [dart_back h (hr x (by simp)),darts_back h fun y hy => hr y (by simp [hy])]
theorem takeVs_back {l : List Vx} {es : List Ed} (h : Fit8 l es) : ∀ {m : List Vx} (r : List UInt8),(∀ v∈m,v∈l)→takeVs es m.length (vxsB es m++r)=some (m,r)
  | [],r,_ => rfl
  | v :: m, r, hm => by
    have hv:=hm v (by simp)
    obtain ⟨h2,h3,h4⟩:=h.vl v hv
    have hx : mayI v.id=true:=h.wf.sv.1 _ (List.mem_map.2 ⟨v,hv,rfl⟩)
    have hrl : v.ring.length≤80:=h.wf.ring80 hv
    have e1 : vxsB es (v :: m)++r=edB v.id v.label v.attr++(u8 (v.ring.map (dartB es)).length :: (v.ring.map (dartB es)++(vxsB es m++r))):=by
      unfold vxsB
      rw [List.flatMap_cons]
      unfold vxB
      rw [List.length_map]
      simp only [List.append_assoc,List.cons_append]
    have ht:=thing_back hx h2 h3 h4 (u8 (v.ring.map (dartB es)).length :: (v.ring.map (dartB es)++(vxsB es m++r)))
    have hc:=takeC_back (c:=v.ring.map (dartB es)) (by rw [List.length_map]; omega) (vxsB es m++r)
    have hd:=darts_back h.wf (r:=v.ring) (es:=es) fun x hx => mem_allR hv hx
    rw [e1,List.length_cons]
    unfold takeVs vertP
    rw [ht]
    simp only []
    rw [hc]
    simp only [and_self,if_true]
    rw [hd]
    simp only [Option.map_some]
    rw [takeVs_back h r fun u hu => hm u (by simp [hu])]
    rfl
theorem parse_back {l : List Vx} {es : List Ed} (h : Fit8 l es) (r : List UInt8) : parseD (putD l es++r)=some (l,es):=by
  have hle:=h.wf.le
  have hlv:=h.wf.lv
  have e1 : putD l es++r=u8 es.length :: (edsB es++(u8 l.length :: (vxsB es l++r))):=by
    unfold putD
    simp only [List.append_assoc,List.cons_append]
  have he:=takeEs_back (es:=es) (u8 l.length :: (vxsB es l++r)) fun e he => ⟨h.wf.se.1 _ (List.mem_map.2 ⟨e,he,rfl⟩),h.el e he⟩
  have hv:=takeVs_back h (m:=l) r fun v hv => hv
  rw [e1]
  unfold parseD
  simp only []
  rw [u8_nat (show es.length≤255 by omega),he]
  simp only []
  unfold vertsP
  simp only []
  rw [u8_nat (show l.length≤255 by omega),hv]
  rfl
theorem mayC_form {l : List Vx} {es : List Ed} (h : mayC l es=0) : formC l es=0:=by
  unfold mayC at h
  split at h
  · assumption
  · exact h
theorem takeD_put {l : List Vx} {es : List Ed} (h : mayC l es=0) : takeD (putD l es)=some (l,es):=by
  have hp:=parse_back (fit8_of (mayC_form h)) []
  rw [List.append_nil] at hp
  unfold takeD
  rw [hp]
  exact if_pos ⟨h,rfl⟩
theorem takeD_some {b : List UInt8} {l : List Vx} {es : List Ed} (h : takeD b=some (l,es)) : mayC l es=0∧putD l es=b:=by
  unfold takeD at h
  split at h
  · split at h
    · rename_i hh
      obtain ⟨rfl,rfl⟩:=Prod.mk.inj (Option.some.inj h)
      exact hh
    · cases h
  · cases h
theorem putD_inj {l m : List Vx} {es fs : List Ed} (h : mayC l es=0) (k : mayC m fs=0) : putD l es=putD m fs↔l=m∧es=fs:=by
  constructor
  · intro e
    have h1:=takeD_put h
    rw [e,takeD_put k] at h1
    obtain ⟨e1,e2⟩:=Prod.mk.inj (Option.some.inj h1)
    exact ⟨e1.symm,e2.symm⟩
  · rintro ⟨rfl,rfl⟩; rfl
theorem takeD_more {l : List Vx} {es : List Ed} (h : mayC l es=0) {r : List UInt8} (hr : r≠[]) : takeD (putD l es++r)=none:=by
  unfold takeD
  rw [parse_back (fit8_of (mayC_form h)) r]
  refine if_neg fun hh => hr ?_
  have:=congrArg List.length hh.2
  rw [List.length_append] at this
  exact List.length_eq_zero_iff.1 (by omega)
theorem takeD_less {l : List Vx} {es : List Ed} (h : mayC l es=0) {n : Nat} (hn : n < (putD l es).length) : takeD ((putD l es).take n)=none:=by
  cases hc : takeD ((putD l es).take n) with
  | none => rfl
  | some p =>
    obtain ⟨m,fs⟩:=p
    obtain ⟨h1,h2⟩:=takeD_some hc
    have h3:=parse_back (fit8_of (mayC_form h1)) ((putD l es).drop n)
    rw [h2,List.take_append_drop] at h3
    have h4:=parse_back (fit8_of (mayC_form h)) []
    rw [List.append_nil] at h4
    rw [h4] at h3
    obtain ⟨rfl,rfl⟩:=Prod.mk.inj (Option.some.inj h3)
    have:=congrArg List.length h2
    rw [List.length_take] at this
    omega
/-! ### how many bytes -/
theorem edB_len (x : ID) (s : ByteArray) (n : Int) : (edB x s n).length=13+s.size:=by
  unfold edB
  rw [List.length_append,List.length_append,putI_len,textB_len,numB_len]; omega
end Go.Proofs.Ytcecojdeljbjoaa.Sx
namespace Go.Proofs.Ytcecojdeljbjoaa.Sx
open Go
def runE : Nat→List UInt8→Bool→List Ed × List UInt8 × Bool
  | 0,b,bad => ([],b,bad)
  | _+1,b,true => ([],b,true)
  | n+1,b,false => ((thingP b).1 :: (runE n (thingP b).2.1 (!(thingP b).2.2)).1,(runE n (thingP b).2.1 (!(thingP b).2.2)).2)
def vertR (es : List Ed) (b : List UInt8) : Option (Vx × List UInt8 × Bool) :=
  (dartsP es (takeC (thingP b).2.1).1).map fun r => (⟨(thingP b).1.id,r,(thingP b).1.label,(thingP b).1.attr⟩,(takeC (thingP b).2.1).2.1,!(thingP b).2.2 || !(takeC (thingP b).2.1).2.2)
def runV (es : List Ed) : Nat→List UInt8→Bool→Option (List Vx × List UInt8 × Bool)
  | 0,b,bad => some ([],b,bad)
  | _+1,b,true => some ([],b,true)
  | n + 1, b, false => match vertR es b with
    | none => none
    | some (v,r,bad) => (runV es n r bad).map fun p => (v :: p.1,p.2)
def nextR (b : List UInt8) (bad : Bool) : Nat × List UInt8 × Bool:=match b with
  | [] => (0,[],true)
  | c :: r => (c.toNat,r,bad)
theorem runE_bad (n : Nat) (b : List UInt8) : runE n b true=([],b,true):=by cases n<;>rfl
theorem runV_bad (es : List Ed) (n : Nat) (b : List UInt8) : runV es n b true=some ([],b,true):=by cases n<;>rfl
theorem runE_some : ∀ (n : Nat) (b : List UInt8) (es : List Ed) (r : List UInt8),takeEs n b=some (es,r)→runE n b false=(es,r,false)
  | 0, b, es, r, h => by
    obtain ⟨rfl,rfl⟩:=Prod.mk.inj (Option.some.inj h)
    rfl
  | n + 1, b, es, r, h => by
    unfold takeEs at h
    split at h
    · rename_i ht
      obtain ⟨p,hp,h2⟩:=Option.map_eq_some_iff.1 h
      obtain ⟨es',r'⟩:=p
      obtain ⟨rfl,rfl⟩:=Prod.mk.inj h2
      have:=runE_some n _ _ _ hp
      simp only [runE,ht,Bool.not_true,this]
    · cases h
theorem runE_none : ∀ (n : Nat) (b : List UInt8),takeEs n b=none→(runE n b false).2.2=true
  | 0,b,h => by cases h
  | n + 1, b, h => by
    unfold takeEs at h
    split at h
    · rename_i ht
      have:=runE_none n _ (Option.map_eq_none_iff.1 h)
      simp only [runE,ht,Bool.not_true,this]
    · rename_i ht
      have ht : (thingP b).2.2=false:=by simpa using ht
      simp only [runE,ht,Bool.not_false,runE_bad]
theorem vertR_some {es : List Ed} {b : List UInt8} {v : Vx} {r : List UInt8} (h : vertP es b=some (v,r)) : vertR es b=some (v,r,false):=by
  unfold vertP at h
  split at h
  · rename_i ht
    obtain ⟨q,hq,h2⟩:=Option.map_eq_some_iff.1 h
    obtain ⟨rfl,rfl⟩:=Prod.mk.inj h2
    unfold vertR
    rw [hq,ht.1,ht.2]; rfl
  · cases h
theorem vertR_none {es : List Ed} {b : List UInt8} (h : vertP es b=none) : ∀ v r bad,vertR es b=some (v,r,bad)→bad=true:=by
  intro v r bad hv
  unfold vertR at hv
  obtain ⟨q,hq,h2⟩:=Option.map_eq_some_iff.1 hv
  simp only [Prod.mk.injEq] at h2
  obtain ⟨_,_,rfl⟩:=h2
  unfold vertP at h
  split at h
  · rw [hq] at h; cases h
  · rename_i ht
    rw [← Bool.not_and,Bool.not_eq_true']
    simpa using ht
theorem runV_some (es : List Ed) : ∀ (n : Nat) (b : List UInt8) (l : List Vx) (r : List UInt8),takeVs es n b=some (l,r)→runV es n b false=some (l,r,false)
  | 0, b, l, r, h => by
    obtain ⟨rfl,rfl⟩:=Prod.mk.inj (Option.some.inj h)
    rfl
  | n + 1, b, l, r, h => by
    unfold takeVs at h
    split at h
    · rename_i v r' hv
      obtain ⟨p,hp,h2⟩:=Option.map_eq_some_iff.1 h
      obtain ⟨l',r2⟩:=p
      obtain ⟨rfl,rfl⟩:=Prod.mk.inj h2
      have:=runV_some es n _ _ _ hp
      simp only [runV,vertR_some hv,this,Option.map_some]
    · cases h
theorem runV_none (es : List Ed) : ∀ (n : Nat) (b : List UInt8),takeVs es n b=none→∀ p,runV es n b false=some p→p.2.2=true
  | 0,b,h => by cases h
  | n + 1, b, h => by
    intro p hp
    simp only [runV] at hp
    unfold takeVs at h
    split at hp
    · cases hp
    · rename_i v r bad hv
      obtain ⟨q,hq,h2⟩:=Option.map_eq_some_iff.1 hp
      subst h2
      split at h
      · rename_i v' r' hv'
        rw [vertR_some hv'] at hv
        simp only [Option.some.injEq,Prod.mk.injEq] at hv
        obtain ⟨rfl,rfl,rfl⟩:=hv
        exact runV_none es n _ (Option.map_eq_none_iff.1 h) q hq
      · rename_i hv'
        rw [vertR_none hv' _ _ _ hv,runV_bad] at hq
        obtain rfl:=Option.some.inj hq
        rfl
def runD (b : List UInt8) : Option (List Vx × List Ed × Bool) :=
  (runV (runE (nextR b false).1 (nextR b false).2.1 (nextR b false).2.2).1
    (nextR (runE (nextR b false).1 (nextR b false).2.1 (nextR b false).2.2).2.1 (runE (nextR b false).1 (nextR b false).2.1 (nextR b false).2.2).2.2).1
    (nextR (runE (nextR b false).1 (nextR b false).2.1 (nextR b false).2.2).2.1 (runE (nextR b false).1 (nextR b false).2.1 (nextR b false).2.2).2.2).2.1
    (nextR (runE (nextR b false).1 (nextR b false).2.1 (nextR b false).2.2).2.1 (runE (nextR b false).1 (nextR b false).2.1 (nextR b false).2.2).2.2).2.2).map
    fun p => (p.1,(runE (nextR b false).1 (nextR b false).2.1 (nextR b false).2.2).1,p.2.2)
theorem runD_some {b : List UInt8} {l : List Vx} {es : List Ed} (h : parseD b=some (l,es)) : runD b=some (l,es,false):=by
  unfold parseD at h
  split at h
  · cases h
  · rename_i n r
    split at h
    · rename_i es' r' he
      obtain ⟨l',hl,h2⟩:=Option.map_eq_some_iff.1 h
      obtain ⟨rfl,rfl⟩:=Prod.mk.inj h2
      have h3:=runE_some _ _ _ _ he
      unfold vertsP at hl
      split at hl
      · cases hl
      · rename_i m r2
        obtain ⟨p,hp,rfl⟩:=Option.map_eq_some_iff.1 hl
        have h4:=runV_some es' _ _ _ _ hp
        simp only [runD,nextR,h3,h4,Option.map_some]
    · cases h
theorem runD_none {b : List UInt8} (h : parseD b=none) : ∀ l es bad,runD b=some (l,es,bad)→bad=true:=by
  intro l es bad hr
  unfold runD at hr
  obtain ⟨p,hp,h2⟩:=Option.map_eq_some_iff.1 hr
  simp only [Prod.mk.injEq] at h2
  obtain ⟨_,_,rfl⟩:=h2
  unfold parseD at h
  cases b with
  | nil =>
    simp only [nextR,runE,runV] at hp
    obtain rfl:=Option.some.inj hp
    rfl
  | cons n r =>
    simp only [nextR] at hp h
    split at h
    · rename_i es' r' he
      rw [runE_some _ _ _ _ he] at hp
      have hl:=Option.map_eq_none_iff.1 h
      unfold vertsP at hl
      split at hl
      · simp only [runV] at hp
        obtain rfl:=Option.some.inj hp
        rfl
      · rename_i m r2
        exact runV_none _ _ _ (Option.map_eq_none_iff.1 hl) p hp
    · rename_i he
      have h3:=runE_none _ _ he
      generalize runE n.toNat r false=q at *
      obtain ⟨es2,r2,bad2⟩:=q
      simp only at h3 hp
      subst h3
      cases r2 with
      | nil =>
        simp only [runV] at hp
        obtain rfl:=Option.some.inj hp
        rfl
      | cons m r3 =>
        simp only [runV_bad] at hp
        obtain rfl:=Option.some.inj hp
        rfl
theorem takeD_run (b : List UInt8) : takeD b=match runD b with
    | some (l,es,false) => if mayC l es=0∧putD l es=b then some (l,es) else none
    | _ => none:=by
  unfold takeD
  cases hp : parseD b with
  | some p =>
    obtain ⟨l,es⟩:=p
    rw [runD_some hp]
  | none =>
    cases hr : runD b with
    | none => rfl
    | some p =>
      obtain ⟨l,es,bad⟩:=p
      rw [runD_none hp _ _ _ hr]
/-! ### bounds -/
theorem takeI_le (b : List UInt8) : (takeI b).2.1.length≤b.length:=by
  unfold takeI
  split<;>(try split)<;>simp<;>omega
theorem takeC_le (b : List UInt8) : (takeC b).2.1.length≤b.length∧(takeC b).1.length≤b.length:=by
  unfold takeC
  split
  · simp
  · split<;>simp<;>omega
theorem takeX_le (b : List UInt8) : (takeX b).2.1.length≤b.length:=by rw [takeX_C]; exact (takeC_le b).1
theorem takeN_le (b : List UInt8) : (takeN b).2.1.length≤b.length:=by
  unfold takeN
  split<;>simp
theorem thingP_le (b : List UInt8) : (thingP b).2.1.length≤b.length:=by
  unfold thingP
  exact Nat.le_trans (takeN_le _) (Nat.le_trans (takeX_le _) (takeI_le b))
theorem dartsP_len {es : List Ed} : ∀ {c : List UInt8} {r : List Dart},dartsP es c=some r→r.length=c.length
  | [],r,h => by obtain rfl:=Option.some.inj h; rfl
  | x :: c, r, h => by
    unfold dartsP at h
    split at h
    · rename_i y ys h1 h2
      obtain rfl:=Option.some.inj h
      rw [List.length_cons,List.length_cons,dartsP_len h2]
    · cases h
end Go.Proofs.Ytcecojdeljbjoaa.Sx
namespace Go.Proofs.Ytcecojdeljbjoaa.Sx
open Go
def LowH (g : Hp) (lo : Nat) : Prop:=(∀ i,lo≤i→g i=none)∧∀ (i m : Nat) (j : List (Nat × Nat)),lo≤m→maskO m j (g i)=g i
theorem LowH.none {g : Hp} {lo : Nat} (h : LowH g lo) (k : Nat) : g (lo+k)=none:=h.1 _ (by omega)
theorem LowH.le {g : Hp} {lo m : Nat} (h : LowH g lo) (hm : lo≤m) : LowH g m:=⟨fun i hi => h.1 i (by omega),fun i m' j hm' => h.2 i m' j (by omega)⟩
theorem LowH.h0 (lo : Nat) : LowH h0 lo:=⟨fun _ _ => rfl,fun _ _ _ _ => rfl⟩
theorem LowH.upd {g : Hp} {lo : Nat} (h : LowH g lo) {id : Nat} (hid : id < lo) {o : Ob} (ho : ∀ (m : Nat) (j : List (Nat × Nat)),lo≤m→maskO m j (some o)=some o) : LowH (upd g id (some o)) lo:=by
  refine ⟨fun i hi => ?_,fun i m j hm => ?_⟩
  · unfold Sx.upd; rw [if_neg (by omega)]; exact h.1 i hi
  · unfold Sx.upd
    split
    · exact ho m j hm
    · exact h.2 i m j hm
theorem keepLo_low {g : Hp} {lo : Nat} (h : LowH g lo) (j : List (Nat × Nat)) : keepLo j g lo=g:=by
  cases lo with
  | zero =>
    funext i
    show Sx.h0 i=g i
    rw [h.1 i (by omega)]; rfl
  | succ lo =>
    funext k
    show (if k < lo+1 then maskO (lo+1) j (g k) else none)=g k
    split
    · exact h.2 k _ j (Nat.le_refl _)
    · rw [h.1 k (by omega)]
theorem lk_lt {lo i : Nat} (h : i < lo) (j : List (Nat × Nat)) : lk lo i j=some i:=by
  induction j with
  | nil => simp [lk,h]
  | cons x j ih => obtain ⟨a,b⟩:=x; simp only [lk,if_neg (show ¬ lo+a=i by omega),ih]
theorem tightR_small {lo : Nat} (h : lo < 1000000000000) (xs : List X) (r : Option (List (List TV) × List Nat)) : tightR lo xs r=r:=if_pos h
theorem ne_add {id lo : Nat} (h : id < lo) (k : Nat) : (id=lo+k)=False:=by simp; omega
theorem add_ne {id lo : Nat} (h : id < lo) (k : Nat) : (lo+k=id)=False:=by simp; omega
@[go_sem] theorem add_lt_self (lo k : Nat) : (lo+k < lo)=False:=by simp
attribute [go_sem] Nat.add_eq_left Nat.left_eq_add
end Go.Proofs.Ytcecojdeljbjoaa.Sx
namespace Go.Proofs.Ytcecojdeljbjoaa.Sx
open Go
def rdV (b : List UInt8) (bad : Bool) : Ob:=.var false [.v (.sl .shared 1 (rowsBy cByte b)),.v (.bool bad)]
theorem rdV_mask {b : List UInt8} {bad : Bool} {lo : Nat} : ∀ (m : Nat) (j : List (Nat × Nat)),lo≤m→maskO m j (some (rdV b bad))=some (rdV b bad):=fun _ _ _ => rfl
structure RdAt (g : Hp) (lo id : Nat) (b : List UInt8) (bad : Bool) : Prop where
  low : LowH g lo
  lt : id < lo
  var : g id=some (rdV b bad)
theorem byte_i (lo : Nat) (hlt : lo < 1000000000000) {id : Nat} {g : Hp} {b : List UInt8} {bad : Bool} (hR : RdAt g lo id b bad) :
    calli F 31 lo g [.p id 0]=some (.v (.int .i64 ((nextR b bad).1 : Nat)),upd g id (some (rdV (nextR b bad).2.1 (nextR b bad).2.2))):=by
  have hk:=fun j => keepLo_low hR.low j
  have a1:=ne_add hR.lt
  have a2:=add_ne hR.lt
  have hvar:=hR.var
  unfold rdV at hvar
  rw [calli_code F (fn:=f31) rfl]
  cases b with
  | nil => simp only [f31,rdV,nextR,hvar,hR.lt,hk,a1,a2,rowsBy_nil,storeQ_lt hlt,tightR_small hlt,hR.low.none,Nat.reduceLT,go_sem,seval]
  | cons c r =>
    have h1 : ((((c :: r).length : Nat) : Int)=0)=False:=by rw [List.length_cons]; exact eq_false (by omega)
    have h2 : (0 : Int) < (((c :: r).length : Nat) : Int):=by rw [List.length_cons]; omega
    have h3 : (1 : Int)≤(((c :: r).length : Nat) : Int):=by rw [List.length_cons]; omega
    have r1 : (rowsBy cByte (c :: r))[0]?=some [.int .u8 (c.toNat : Int)]:=rfl
    have r2 : (rowsBy cByte (c :: r)).drop 1=rowsBy cByte r:=rfl
    have hw : IntKind.i64.wrap (c.toNat : Int)=(c.toNat : Int):=wbN c
    have hrl : (rowsBy cByte (c :: r)).length=(c :: r).length:=rowsBy_length _ _
    have htk : List.take ((c :: r).length - 1) r=r:=List.take_of_length_le (by rw [List.length_cons]; omega)
    generalize hlen : (c :: r).length=len at *
    generalize hrow : rowsBy cByte (c :: r)=row at *
    simp only [f31,rdV,nextR,hvar,hR.lt,hk,a1,a2,h1,hlen,hrow,hrl,htk,h2,h3,r1,r2,hw,storeQ_lt hlt,tightR_small hlt,hR.low.none,Nat.reduceLT,go_sem,seval]
set_option maxHeartbeats 4000000 in
theorem thing_i (lo : Nat) (hlt : lo < 1000000000000) {id : Nat} {g : Hp} {b : List UInt8} {bad : Bool} (hR : RdAt g lo id b bad) (hb : b.length≤100000) :
    calli F 32 lo g [.p id 0]=some (.agg [.v (.int .i64 (thingP b).1.id.s),.v (.int .i64 (thingP b).1.id.n),.v (.str (thingP b).1.label),.v (.int .i64 (thingP b).1.attr)],upd (upd g id (some (rdV (thingP b).2.1 (bad || !(thingP b).2.2)))) (lo+2) (some (.var false [.v (.int .i64 (thingP b).1.id.s),.v (.int .i64 (thingP b).1.id.n),.v (.str (thingP b).1.label),.v (.int .i64 (thingP b).1.attr)]))):=by
  have hk:=fun j => keepLo_low hR.low j
  have a1:=ne_add hR.lt
  have a2:=add_ne hR.lt
  have hvar:=hR.var
  unfold rdV at hvar
  have c1:=i_ident_Take b
  have l1:=takeI_le b
  have c2:=i_pack_TakeText (takeI b).2.1 (by omega)
  have c3:=i_pack_TakeNum (takeX (takeI b).2.1).2.1
  unfold takeIT at c1
  unfold takeXT at c2
  unfold takeNT at c3
  unfold thingP
  generalize takeI b=p at *
  obtain ⟨x,r1,o1⟩:=p
  simp only at c2 c3 ⊢
  generalize takeX r1=p at *
  obtain ⟨s,r2,o2⟩:=p
  simp only at c3 ⊢
  generalize takeN r2=p at *
  obtain ⟨n,r3,o3⟩:=p
  simp only at c1 c2 c3 ⊢
  rw [calli_code F (fn:=f32) rfl]
  cases bad<;>cases o1<;>cases o2<;>cases o3 <;>
  simp only [f32,rdV,hvar,hR.lt,hk,a1,a2,c1,c2,c3,upd_two,storeQ_lt hlt,tightR_small hlt,hR.low.none,Nat.reduceLT,Bool.and_self,Bool.and_true,Bool.and_false,Bool.true_and,Bool.false_and,Bool.not_true,Bool.not_false,Bool.or_true,Bool.or_false,Bool.true_or,Bool.false_or,Bool.or_self,go_sem,seval]
end Go.Proofs.Ytcecojdeljbjoaa.Sx
namespace Go.Proofs.Ytcecojdeljbjoaa.Sx
open Go
def nR (l : List UInt8) (x : Int) (q : Nat) : List (List TV):=rowsBy cByte (l++(numB x).take q)++List.replicate (8 - q) [.int .u8 0]
theorem nR_len (l : List UInt8) (x : Int) {q : Nat} (h : q≤8) : (nR l x q).length=l.length+8:=by
  unfold nR
  rw [List.length_append,rowsBy_length,List.length_append,List.length_take,numB_len,List.length_replicate]
  omega
theorem nR_zero (l : List UInt8) (x : Int) : rowsBy cByte l++(List.replicate (l.length+8) [TV.int .u8 0]).drop l.length=nR l x 0:=by
  unfold nR
  rw [List.take_zero,List.append_nil,List.drop_replicate,show l.length+8 - l.length=8 - 0 by omega]
theorem nR_end (l : List UInt8) (x : Int) : nR l x 8=rowsBy cByte (l++numB x):=by
  unfold nR
  rw [List.take_of_length_le (by rw [numB_len]; omega)]
  simp
theorem numB_get (x : Int) {q : Nat} (h : q < 8) : (numB x)[q]?=some (byteK (x % 18446744073709551616) (7 - q)):=by
  match q,h with
  | 0,_ => rfl
  | 1,_ => rfl
  | 2,_ => rfl
  | 3,_ => rfl
  | 4,_ => rfl
  | 5,_ => rfl
  | 6,_ => rfl
  | 7,_ => rfl
theorem numB_take (x : Int) {q : Nat} (h : q < 8) : (numB x).take (q+1)=(numB x).take q++[byteK (x % 18446744073709551616) (7 - q)]:=by
  rw [List.take_add_one,numB_get x h]; rfl
theorem nR_set (l : List UInt8) (x : Int) {q : Nat} (h : q < 8) : (nR l x q).set (l.length+q) (cByte (byteK (x % 18446744073709551616) (7 - q)))=nR l x (q+1):=by
  unfold nR
  have e : (rowsBy cByte (l++(numB x).take q)).length=l.length+q:=by rw [rowsBy_length,List.length_append,List.length_take,numB_len]; omega
  rw [List.set_append_right _ _ (by omega),e,Nat.sub_self,show 8 - q=(8 - (q+1))+1 by omega,List.replicate_succ,List.set_cons_zero,numB_take x h,← List.append_assoc,← rowsBy_snoc,List.append_assoc]
  rfl
theorem nR_get (l : List UInt8) (x : Int) {q : Nat} (h : q < 8) : (nR l x q)[l.length+q]?=some [TV.int .u8 0]:=by
  unfold nR
  have e : (rowsBy cByte (l++(numB x).take q)).length=l.length+q:=by rw [rowsBy_length,List.length_append,List.length_take,numB_len]; omega
  rw [List.getElem?_append_right (by omega),e,Nat.sub_self,show 8 - q=(8 - (q+1))+1 by omega,List.replicate_succ]
  rfl
theorem byteR_eq (x : Int) {q : Nat} (h : q < 8) : [TV.int .u8 (IntKind.u8.wrap ((IntKind.u64.wrap x).fdiv (2 ^ min (8 * (7 - (q : Int))).toNat 64)))]=cByte (byteK (x % 18446744073709551616) (7 - q)):=by
  rw [u8_row,wrapU_mod,show min (8 * (7 - (q : Int))).toNat 64=8 * (7 - q) by omega,Int.fdiv_eq_ediv_of_nonneg _ (Int.pow_nonneg (by omega))]
  rfl
theorem i_pack_Num (l : List UInt8) (hl : l.length≤100000) (fl : Fl) (x : Int) : call F 17 [.sl fl 1 (rowsBy cByte l),.int .i64 x]=some (.sl (.own 5) 1 (rowsBy cByte (l++numB x))):=by
  have w8 : IntKind.i64.wrap ((l.length : Int)+8)=(l.length : Int)+8:=wrap64 (by omega) (by omega)
  have t8 : ((l.length : Int)+8).toNat=l.length+8:=by omega
  have n8 : (0 : Int)≤(l.length : Int)+8:=by omega
  have b8 : (l.length : Int)+8≤140737488355328:=by omega
  have m8 : min l.length (l.length+8)=l.length:=by omega
  have hz:=nR_zero l x
  have tk : (l++numB x).take (l.length+8)=l++numB x:=List.take_of_length_le (by rw [List.length_append,numB_len]; omega)
  have l1 : E (cs F) 0 f17_l1 (⟨(upd (upd (upd (upd Sx.e0 14 (.v (.int .i64 (0)))) 5 (.s 5 0 (l.length+8))) 1 (.v (.int .i64 (x)))) 0 (.v (.sl fl 1 (rowsBy cByte l)))),(upd Sx.h0 5 (some (.arr false 5 1 (nR l x 0))))⟩ : St)=some (.exit 0,(⟨(upd Sx.e0 5 (.s 5 0 (l.length+8))),(upd Sx.h0 5 (some (.arr false 5 1 (nR l x 8))))⟩ : St)):=by
    refine loop_to (b:=f17_b1) (fun q0 => (⟨(upd (upd (upd (upd Sx.e0 14 (.v (.int .i64 ((q0 : Int))))) 5 (.s 5 0 (l.length+8))) 1 (.v (.int .i64 (x)))) 0 (.v (.sl fl 1 (rowsBy cByte l)))),(upd Sx.h0 5 (some (.arr false 5 1 (nR l x q0))))⟩ : St)) (8) ?_ ?_ (by simp)
    · intro i h1
      have h2 : (i : Int) < 8:=by omega
      have c0 : IntKind.i64.wrap ((l.length : Int)+i)=(l.length : Int)+i:=wrap64 (by omega) (by omega)
      have c1 : IntKind.i64.wrap (7 - (i : Int))=7 - i:=wrap64 (by omega) (by omega)
      have c2 : IntKind.i64.wrap (8 * (7 - (i : Int)))=8 * (7 - i):=wrap64 (by omega) (by omega)
      have c3 : ¬ 8 * (7 - (i : Int)) < 0:=by omega
      have c4 : (0 : Int)≤(l.length : Int)+i:=by omega
      have c5 : ((l.length : Int)+i).toNat=l.length+i:=by omega
      have c6 : l.length+i < l.length+8:=by omega
      have c7:=nR_len l x (Nat.le_of_lt h1)
      have d1 : (l.length : Int)+i < ((l.length+8 : Nat) : Int):=by omega
      have c8:=nR_get l x h1
      have c9:=nR_set l x h1
      rw [← byteR_eq x h1] at c9
      simp only [f17_b1,rowsBy_length,decide_eq_true h2,c0,c1,c2,c3,c4,c5,c6,c7,c8,c9,d1,List.set_cons_zero,wrap_succ h1 (show 8≤9223372036854775807 by omega),go_sem,seval]
    · simp only [f17_b1,go_sem,seval]
  rw [call_code F (show F 17=some (.code f17) from rfl)]
  simp only [f17,rowsBy_length,w8,t8,n8,b8,m8,Nat.zero_add,List.nil_append,List.take_zero,rowsBy_takeAll,hz,nR_len l x (Nat.zero_le 8),l1,Int.mul_one,nR_end,tk,go_sem,seval]
theorem i_Clip (fl : Fl) (R : List (List TV)) : calli F 30 1000000 Sx.h0 [.v (.sl fl 1 R)]=some (.v (.sl (.tight 5) 1 R),Sx.h0):=by
  rw [calli_code F (fn:=f30) rfl]
  simp only [f30,Int.le_refl,Nat.sub_zero,List.take_length,go_sem,seval]
theorem i_pack_Text (l : List UInt8) (hl : l.length≤100000) (fl : Fl) (s : ByteArray) (hs : s.size≤100000) : call F 19 [.sl fl 1 (rowsBy cByte l),.str s]=some (.sl (.own 5) 1 (rowsBy cByte (l++textB s))):=by
  have e : rowsBy cByte l++[[.int .u8 (IntKind.u8.wrap s.size)]]++rowsBy cByte s.data.toList=rowsBy cByte (l++textB s):=by
    rw [u8_row,rowsBy_snoc,rowsBy_append]
    unfold textB
    simp
  have hsz : s.data.toList.length=s.size:=by rw [Array.length_toList]; rfl
  obtain ⟨z,hz⟩ : ∃ z,IntKind.u8.wrap (s.size : Int)=z:=⟨_,rfl⟩
  rw [← e,hz]
  have hq : (rowsBy cByte s.data.toList).length=s.size:=by rw [rowsBy_length,hsz]
  cases hR : rowsBy cByte l with
  | nil =>
    have k3 : (1+s.size) * 1≤140737488355328:=by omega
    have t2 : ([TV.int .u8 z] :: rowsBy cByte s.data.toList).take (1+s.size)=[TV.int .u8 z] :: rowsBy cByte s.data.toList:=take_all (by rw [List.length_cons,hq]; omega)
    rw [call_code F (show F 19=some (.code f19) from rfl)]
    simp only [f19,hz,i_Clip,byteRows_by,hq,Int.le_refl,List.take_length,Nat.sub_zero,k3,t2,List.nil_append,List.cons_append,go_sem,seval]
  | cons r R =>
    have hRl : R.length+1=l.length:=by rw [← rowsBy_length cByte l,hR]; rfl
    have k1 : (R.length+1+1) * 1≤140737488355328:=by omega
    have k3 : (R.length+1+1+s.size) * 1≤140737488355328:=by omega
    have t1 : (R++[[TV.int .u8 z]]).take (R.length+1)=R++[[TV.int .u8 z]]:=take_all (by simp)
    have t2 : (r :: (R++[[TV.int .u8 z]]++rowsBy cByte s.data.toList)).take (R.length+1+1+s.size)=r :: (R++[[TV.int .u8 z]]++rowsBy cByte s.data.toList):=take_all (by rw [List.length_cons,List.length_append,List.length_append,hq]; simp; omega)
    rw [call_code F (show F 19=some (.code f19) from rfl)]
    simp only [f19,hz,i_Clip,byteRows_by,hq,Int.le_refl,List.take_length,Nat.sub_zero,k1,k3,t1,go_sem,seval]
    all_goals simp only [t2,List.cons_append]
end Go.Proofs.Ytcecojdeljbjoaa.Sx
namespace Go.Proofs.Ytcecojdeljbjoaa.Sx
open Go
/-! ### the map of places -/
def plI (k : Nat) : List Ed→List (List TV × List TV)
  | [] => []
  | e :: r => ([.int .i64 e.id.s,.int .i64 e.id.n],[.int .i64 (k : Int)]) :: plI (k+1) r
def keyI (x : ID) : List LV:=[LV.v (.int .i64 x.s),LV.v (.int .i64 x.n)]
theorem eqcI (x y : ID) : eqCells [Lk.i,Lk.i] (keyI x) (liftV [.int .i64 y.s,.int .i64 y.n])=some (decide (x=y)):=by
  unfold keyI
  have e : decide (x=y)=(decide (x.s=y.s) && decide (x.n=y.n)):=by
    cases x; cases y; simp
  rw [e]
  simp only [Bool.and_true,go_sem,seval]
theorem find_plI (x : ID) : ∀ (es : List Ed) (k : Nat),findM [Lk.i,Lk.i] (keyI x) (plI k es)=some (if es.findIdx (fun e => decide (e.id=x))=es.length then none else some [.int .i64 ((k+es.findIdx (fun e => decide (e.id=x)) : Nat) : Int)])
  | [],k => rfl
  | e :: es, k => by
    show findM _ _ (([.int .i64 e.id.s,.int .i64 e.id.n],[.int .i64 (k : Int)]) :: plI (k+1) es)=_
    rw [findM,eqcI,List.findIdx_cons]
    by_cases h : x=e.id
    · subst h
      simp
    · have h' : ¬ e.id = x := fun q => h q.symm
      rw [decide_eq_false h,decide_eq_false h']
      simp only [cond_false,List.length_cons]
      rw [find_plI x es (k+1)]
      by_cases q : es.findIdx (fun e => decide (e.id=x))=es.length
      · rw [if_pos q,if_pos (by omega)]
      · rw [if_neg q,if_neg (by omega),show k+1+es.findIdx (fun e => decide (e.id=x))=k+(es.findIdx (fun e => decide (e.id=x))+1) by omega]
theorem upd_plI (e : Ed) : ∀ (es : List Ed) (k : Nat),e.id∉es.map Ed.id→updM [Lk.i,Lk.i] (keyI e.id) [.int .i64 e.id.s,.int .i64 e.id.n] [.int .i64 ((k+es.length : Nat) : Int)] (plI k es)=some (plI k (es++[e]))
  | [],k,_ => rfl
  | f :: es, k, h => by
    simp only [List.map_cons,List.mem_cons,not_or] at h
    have:=upd_plI e es (k+1) h.2
    rw [show k+1+es.length=k+(f :: es).length by simp only [List.length_cons]; omega] at this
    show updM _ _ _ _ (([.int .i64 f.id.s,.int .i64 f.id.n],[.int .i64 (k : Int)]) :: plI (k+1) es)=_
    rw [updM,eqcI,decide_eq_false h.1]
    simp only []
    rw [this]; rfl
theorem i_pack_put (l : List UInt8) (hl : l.length≤90000) (x : ID) (s : ByteArray) (n : Int) (hs : s.size≤1000) : call F 25 [.sl .shared 1 (rowsBy cByte l),.agg [.int .i64 x.s,.int .i64 x.n,.str s,.int .i64 n]]=some (.sl (.own 5) 1 (rowsBy cByte (l++edB x s n))):=by
  have c1:=i_ident_Put l (by omega) .shared x
  have c2:=i_pack_Text (l++putI x) (by rw [List.length_append,putI_len]; omega) .shared s (by omega)
  have c3:=i_pack_Num (l++putI x++textB s) (by rw [List.length_append,List.length_append,putI_len,textB_len]; omega) .shared n
  have e : l++edB x s n=l++putI x++textB s++numB n:=by unfold edB; simp only [List.append_assoc]
  rw [e]
  have t1 : ∀ (l : List UInt8),(rowsBy cByte l).take l.length=rowsBy cByte l:=fun l => rowsBy_takeAll _ _
  rw [call_code F (show F 25=some (.code f25) from rfl)]
  simp only [f25,c1,c2,c3,t1,rowsBy_length,go_sem,seval]
end Go.Proofs.Ytcecojdeljbjoaa.Sx
namespace Go.Proofs.Ytcecojdeljbjoaa.Sx
open Go
structure Sml (l : List Vx) (es : List Ed) : Prop where
  le : es.length≤42
  lv : l.length≤26
  lr : ∀ v∈l,v.ring.length≤82
  se : ∀ e∈es,e.label.size≤500
  sv : ∀ v∈l,v.label.size≤500
def pB (es : List Ed) (i : Nat) : List UInt8:=u8 es.length :: edsB (es.take i)
theorem edsB_snoc (es : List Ed) (e : Ed) : edsB (es++[e])=edsB es++edB e.id e.label e.attr:=by
  unfold edsB; rw [List.flatMap_append]; simp
theorem vxsB_snoc (es : List Ed) (l : List Vx) (v : Vx) : vxsB es (l++[v])=vxsB es l++vxB es v:=by
  unfold vxsB; rw [List.flatMap_append]; simp
theorem pB_succ {es : List Ed} {i : Nat} (h : i < es.length) : pB es i++edB es[i].id es[i].label es[i].attr=pB es (i+1):=by
  unfold pB
  rw [List.take_succ_eq_append_getElem h,edsB_snoc]; rfl
theorem edsB_le : ∀ {es : List Ed},(∀ e∈es,e.label.size≤500)→(edsB es).length≤513 * es.length
  | [],_ => by simp [edsB]
  | e :: es, h => by
    have h1:=edsB_le (es:=es) fun x hx => h x (by simp [hx])
    have h2:=h e (by simp)
    show (edB e.id e.label e.attr++edsB es).length≤_
    rw [List.length_append,edB_len,List.length_cons]; omega
theorem pB_len {l : List Vx} {es : List Ed} (h : Sml l es) (i : Nat) : (pB es i).length≤21547:=by
  have h1:=edsB_le (es:=es.take i) fun e he => h.se e (List.mem_of_mem_take he)
  have h2:=h.le
  have h3 : (es.take i).length≤es.length:=by rw [List.length_take]; omega
  unfold pB
  rw [List.length_cons]; omega
theorem vxB_len {es : List Ed} {v : Vx} (h1 : v.ring.length≤82) (h2 : v.label.size≤500) : (vxB es v).length≤596:=by
  unfold vxB
  rw [List.length_append,edB_len,List.length_cons,List.length_map]; omega
theorem pack_Put_l1 {l : List Vx} {es : List Ed} (h : Sml l es) (hn : (es.map Ed.id).Nodup) :
    E (cs F) 0 f10_l1 (⟨(upd (upd (upd (upd (upd (upd Sx.e0 27 (.v (.int .i64 (0)))) 26 (.v (.int .i64 ((es.length : Int))))) 25 (.v (.sl .shared 4 (rowsBy Ed.c es)))) 6 (.s 6 0 (pB es 0).length)) 5 (.m 5)) 1 (.p 1 0)),(upd (upd (upd Sx.h0 6 (some (.arr false 5 1 (rowsBy cByte (pB es 0))))) 5 (some (.map false true false (plI 0 (es.take 0))))) 1 (some (.var false [(.v (.sl .shared 5 (rowsBy Vx.c l))),(.v (.sl .shared 4 (rowsBy Ed.c es)))])))⟩ : St) =
    some (.exit 0,(⟨(upd (upd (upd Sx.e0 6 (.s 6 0 (pB es es.length).length)) 5 (.m 5)) 1 (.p 1 0)),(upd (upd (upd Sx.h0 6 (some (.arr false 5 1 (rowsBy cByte (pB es es.length))))) 5 (some (.map false true false (plI 0 es)))) 1 (some (.var false [(.v (.sl .shared 5 (rowsBy Vx.c l))),(.v (.sl .shared 4 (rowsBy Ed.c es)))])))⟩ : St)):=by
  have hle:=h.le
  have l1 : E (cs F) 0 f10_l1 (⟨(upd (upd (upd (upd (upd (upd Sx.e0 27 (.v (.int .i64 (0)))) 26 (.v (.int .i64 ((es.length : Int))))) 25 (.v (.sl .shared 4 (rowsBy Ed.c es)))) 6 (.s 6 0 (pB es 0).length)) 5 (.m 5)) 1 (.p 1 0)),(upd (upd (upd Sx.h0 6 (some (.arr false 5 1 (rowsBy cByte (pB es 0))))) 5 (some (.map false true false (plI 0 (es.take 0))))) 1 (some (.var false [(.v (.sl .shared 5 (rowsBy Vx.c l))),(.v (.sl .shared 4 (rowsBy Ed.c es)))])))⟩ : St)=some (.exit 0,(⟨(upd (upd (upd Sx.e0 6 (.s 6 0 (pB es es.length).length)) 5 (.m 5)) 1 (.p 1 0)),(upd (upd (upd Sx.h0 6 (some (.arr false 5 1 (rowsBy cByte (pB es es.length))))) 5 (some (.map false true false (plI 0 es)))) 1 (some (.var false [(.v (.sl .shared 5 (rowsBy Vx.c l))),(.v (.sl .shared 4 (rowsBy Ed.c es)))])))⟩ : St)):=by
    refine loop_to (b:=f10_b1) (fun q0 => (⟨(upd (upd (upd (upd (upd (upd Sx.e0 27 (.v (.int .i64 ((q0 : Int))))) 26 (.v (.int .i64 ((es.length : Int))))) 25 (.v (.sl .shared 4 (rowsBy Ed.c es)))) 6 (.s 6 0 (pB es q0).length)) 5 (.m 5)) 1 (.p 1 0)),(upd (upd (upd Sx.h0 6 (some (.arr false 5 1 (rowsBy cByte (pB es q0))))) 5 (some (.map false true false (plI 0 (es.take q0))))) 1 (some (.var false [(.v (.sl .shared 5 (rowsBy Vx.c l))),(.v (.sl .shared 4 (rowsBy Ed.c es)))])))⟩ : St)) (es.length) ?_ ?_ (by simp)
    · intro i h1
      have h1z : (i : Int) < (es.length : Int):=by omega
      have hw : es.length≤9223372036854775807:=by omega
      have c1:=i_pack_put (pB es i) (by have:=pB_len h i; omega) es[i].id es[i].label es[i].attr (by have:=h.se _ (List.getElem_mem h1); omega)
      rw [pB_succ h1] at c1
      have u1:=upd_plI es[i] (es.take i) 0 (by
        intro hm
        have h2 : es.take (i+1)=es.take i++[es[i]]:=List.take_succ_eq_append_getElem h1
        have h3 : ((es.take (i+1)).map Ed.id).Nodup:=by
          rw [List.map_take]; exact hn.sublist (List.take_sublist _ _)
        rw [h2,List.map_append,List.nodup_append] at h3
        exact h3.2.2 _ hm _ (by simp) rfl)
      rw [← List.take_succ_eq_append_getElem h1,show 0+(es.take i).length=i by rw [List.length_take]; omega] at u1
      simp only [keyI] at u1
      have t1:=rowsBy_takeAll cByte (pB es i)
      simp only [f10_b1,dec_lt h1,h1z,rowsBy_get Ed.c h1,Ed.c,c1,u1,t1,rowsBy_length,wrap_succ h1 hw,go_sem,seval]
    · simp only [f10_b1,dec_ge (Nat.le_refl es.length),List.take_length,go_sem,seval]
  exact l1
/-! ### a ring -/
def rB (es : List Ed) (W : List UInt8) (r : List Dart) (i : Nat) : List UInt8:=W++(r.take i).map (dartB es)
theorem rB_succ {es : List Ed} {W : List UInt8} {r : List Dart} {i : Nat} (h : i < r.length) : rB es W r i++[dartB es r[i]]=rB es W r (i+1):=by
  unfold rB
  rw [List.take_succ_eq_append_getElem h,List.map_append,List.append_assoc]; rfl
theorem rB_len {es : List Ed} {W : List UInt8} {r : List Dart} {i : Nat} : (rB es W r i).length≤W.length+r.length:=by
  unfold rB
  rw [List.length_append,List.length_map,List.length_take]; omega
theorem dart_row (es : List Ed) (x : Dart) : [TV.int .u8 (IntKind.u8.wrap (IntKind.i64.wrap (((plE es x.e : Nat) : Int)+IntKind.i64.wrap (128 * x.d))))]=cByte (dartB es x):=by
  rw [u8_row]
  unfold dartB
  congr 1
  refine u8_eq ?_
  rw [wrapI_mod,wrapI_mod]
  omega
theorem pack_Put_l3 (l : List Vx) (es : List Ed) (W : List UInt8) (r : List Dart) (k : Int) (hW : W.length≤200000) (hr : r.length≤82) :
    E (cs F) 0 f10_l3 (⟨(upd (upd (upd (upd (upd (upd (upd (upd Sx.e0 73 (.v (.int .i64 (0)))) 72 (.v (.int .i64 ((r.length : Int))))) 71 (.v (.sl .shared 3 (rowsBy Dart.c r)))) 50 (.v (.int .i64 (k)))) 49 (.v (.int .i64 ((l.length : Int))))) 48 (.v (.sl .shared 5 (rowsBy Vx.c l)))) 6 (.s 6 0 (rB es W r 0).length)) 5 (.m 5)),(upd (upd Sx.h0 6 (some (.arr false 5 1 (rowsBy cByte (rB es W r 0))))) 5 (some (.map false true false (plI 0 es))))⟩ : St) =
    some (.exit 4,(⟨(upd (upd (upd (upd (upd Sx.e0 50 (.v (.int .i64 (k)))) 49 (.v (.int .i64 ((l.length : Int))))) 48 (.v (.sl .shared 5 (rowsBy Vx.c l)))) 6 (.s 6 0 (rB es W r r.length).length)) 5 (.m 5)),(upd (upd Sx.h0 6 (some (.arr false 5 1 (rowsBy cByte (rB es W r r.length))))) 5 (some (.map false true false (plI 0 es))))⟩ : St)):=by
  have l1 : E (cs F) 0 f10_l3 (⟨(upd (upd (upd (upd (upd (upd (upd (upd Sx.e0 73 (.v (.int .i64 (0)))) 72 (.v (.int .i64 ((r.length : Int))))) 71 (.v (.sl .shared 3 (rowsBy Dart.c r)))) 50 (.v (.int .i64 (k)))) 49 (.v (.int .i64 ((l.length : Int))))) 48 (.v (.sl .shared 5 (rowsBy Vx.c l)))) 6 (.s 6 0 (rB es W r 0).length)) 5 (.m 5)),(upd (upd Sx.h0 6 (some (.arr false 5 1 (rowsBy cByte (rB es W r 0))))) 5 (some (.map false true false (plI 0 es))))⟩ : St)=some (.exit 4,(⟨(upd (upd (upd (upd (upd Sx.e0 50 (.v (.int .i64 (k)))) 49 (.v (.int .i64 ((l.length : Int))))) 48 (.v (.sl .shared 5 (rowsBy Vx.c l)))) 6 (.s 6 0 (rB es W r r.length).length)) 5 (.m 5)),(upd (upd Sx.h0 6 (some (.arr false 5 1 (rowsBy cByte (rB es W r r.length))))) 5 (some (.map false true false (plI 0 es))))⟩ : St)):=by
    refine loop_to (b:=f10_b3) (fun q0 => (⟨(upd (upd (upd (upd (upd (upd (upd (upd Sx.e0 73 (.v (.int .i64 ((q0 : Int))))) 72 (.v (.int .i64 ((r.length : Int))))) 71 (.v (.sl .shared 3 (rowsBy Dart.c r)))) 50 (.v (.int .i64 (k)))) 49 (.v (.int .i64 ((l.length : Int))))) 48 (.v (.sl .shared 5 (rowsBy Vx.c l)))) 6 (.s 6 0 (rB es W r q0).length)) 5 (.m 5)),(upd (upd Sx.h0 6 (some (.arr false 5 1 (rowsBy cByte (rB es W r q0))))) 5 (some (.map false true false (plI 0 es))))⟩ : St)) (r.length) ?_ ?_ (by simp)
    · intro i h1
      have h1z : (i : Int) < (r.length : Int):=by omega
      have hw : r.length≤9223372036854775807:=by omega
      have hB:=rB_len (es:=es) (W:=W) (r:=r) (i:=i)
      have k1 : ((rB es W r i).length+1) * 1≤140737488355328:=by omega
      have t1:=rowsBy_takeAll cByte (rB es W r i)
      have e1:=dart_row es r[i]
      have e2:=rowsBy_snoc cByte (rB es W r i) (dartB es r[i])
      rw [rB_succ h1,← e1] at e2
      have e3 : (rB es W r (i+1)).length=(rB es W r i).length+1:=by rw [← rB_succ h1,List.length_append]; rfl
      have f1:=find_plI r[i].e es 0
      by_cases hq : es.findIdx (fun e => decide (e.id=r[i].e))=es.length
      · have hp : plE es r[i].e = 0 := by unfold plE; rw [if_pos hq]
        rw [if_pos hq] at f1
        simp only [keyI] at f1
        rw [hp] at e2
        simp only [show ((0 : Nat) : Int)=0 from rfl] at e2
        simp only [f10_b3,dec_lt h1,h1z,rowsBy_get Dart.c h1,Dart.c,f1,t1,e2,e3,k1,rowsBy_length,wrap_succ h1 hw,go_sem,seval]
      · have hp : plE es r[i].e = es.findIdx (fun e => decide (e.id = r[i].e)) := by unfold plE; rw [if_neg hq]
        rw [if_neg hq,Nat.zero_add,← hp] at f1
        simp only [keyI] at f1
        simp only [f10_b3,dec_lt h1,h1z,rowsBy_get Dart.c h1,Dart.c,f1,t1,e2,e3,k1,rowsBy_length,wrap_succ h1 hw,go_sem,seval]
    · simp only [f10_b3,dec_ge (Nat.le_refl r.length),go_sem,seval]
  exact l1
/-! ### all -/
def vB (es : List Ed) (l : List Vx) (k : Nat) : List UInt8:=pB es es.length++u8 l.length :: vxsB es (l.take k)
theorem rB_zero (es : List Ed) (W : List UInt8) (r : List Dart) : rB es W r 0=W:=by unfold rB; simp
theorem rB_all (es : List Ed) (W : List UInt8) (r : List Dart) : rB es W r r.length=W++r.map (dartB es):=by unfold rB; rw [List.take_length]
theorem vB_zero (es : List Ed) (l : List Vx) : vB es l 0=pB es es.length++[u8 l.length]:=by unfold vB; simp [vxsB]
theorem vB_succ {es : List Ed} {l : List Vx} {k : Nat} (h : k < l.length) : vB es l k++edB l[k].id l[k].label l[k].attr++[u8 l[k].ring.length]++l[k].ring.map (dartB es)=vB es l (k+1):=by
  unfold vB
  rw [List.take_succ_eq_append_getElem h,vxsB_snoc]
  unfold vxB
  simp only [List.append_assoc,List.cons_append,List.nil_append]
theorem vB_end (es : List Ed) (l : List Vx) : vB es l l.length=putD l es:=by
  unfold vB pB putD
  rw [List.take_length,List.take_length]; rfl
theorem vxsB_le {es : List Ed} : ∀ {l : List Vx},(∀ v∈l,v.ring.length≤82)→(∀ v∈l,v.label.size≤500)→(vxsB es l).length≤596 * l.length
  | [],_,_ => by simp [vxsB]
  | v :: l, h1, h2 => by
    have q1:=vxsB_le (es:=es) (l:=l) (fun x hx => h1 x (by simp [hx])) (fun x hx => h2 x (by simp [hx]))
    have q2:=vxB_len (es:=es) (h1 v (by simp)) (h2 v (by simp))
    show (vxB es v++vxsB es l).length≤_
    rw [List.length_append,List.length_cons]; omega
theorem vB_len {l : List Vx} {es : List Ed} (h : Sml l es) (k : Nat) : (vB es l k).length≤38000:=by
  have h1:=vxsB_le (es:=es) (l:=l.take k) (fun v hv => h.lr v (List.mem_of_mem_take hv)) (fun v hv => h.sv v (List.mem_of_mem_take hv))
  have h2:=pB_len h es.length
  have h3:=h.lv
  have h4 : (l.take k).length≤l.length:=by rw [List.length_take]; omega
  unfold vB
  rw [List.length_append,List.length_cons]; omega
theorem pack_Put_l2 {l : List Vx} {es : List Ed} (h : Sml l es) :
    E (cs F) 0 f10_l2 (⟨(upd (upd (upd (upd (upd Sx.e0 50 (.v (.int .i64 (0)))) 49 (.v (.int .i64 ((l.length : Int))))) 48 (.v (.sl .shared 5 (rowsBy Vx.c l)))) 6 (.s 6 0 (vB es l 0).length)) 5 (.m 5)),(upd (upd Sx.h0 6 (some (.arr false 5 1 (rowsBy cByte (vB es l 0))))) 5 (some (.map false true false (plI 0 es))))⟩ : St) =
    some (.exit 2,(⟨(upd Sx.e0 6 (.s 6 0 (vB es l l.length).length)),(upd Sx.h0 6 (some (.arr false 5 1 (rowsBy cByte (vB es l l.length)))))⟩ : St)):=by
  have hlv:=h.lv
  have l1 : E (cs F) 0 f10_l2 (⟨(upd (upd (upd (upd (upd Sx.e0 50 (.v (.int .i64 (0)))) 49 (.v (.int .i64 ((l.length : Int))))) 48 (.v (.sl .shared 5 (rowsBy Vx.c l)))) 6 (.s 6 0 (vB es l 0).length)) 5 (.m 5)),(upd (upd Sx.h0 6 (some (.arr false 5 1 (rowsBy cByte (vB es l 0))))) 5 (some (.map false true false (plI 0 es))))⟩ : St)=some (.exit 2,(⟨(upd Sx.e0 6 (.s 6 0 (vB es l l.length).length)),(upd Sx.h0 6 (some (.arr false 5 1 (rowsBy cByte (vB es l l.length)))))⟩ : St)):=by
    refine loop_to (b:=f10_b2) (fun q0 => (⟨(upd (upd (upd (upd (upd Sx.e0 50 (.v (.int .i64 ((q0 : Int))))) 49 (.v (.int .i64 ((l.length : Int))))) 48 (.v (.sl .shared 5 (rowsBy Vx.c l)))) 6 (.s 6 0 (vB es l q0).length)) 5 (.m 5)),(upd (upd Sx.h0 6 (some (.arr false 5 1 (rowsBy cByte (vB es l q0))))) 5 (some (.map false true false (plI 0 es))))⟩ : St)) (l.length) ?_ ?_ (by simp)
    · intro i h1
      have h1z : (i : Int) < (l.length : Int):=by omega
      have hw : l.length≤9223372036854775807:=by omega
      have hB:=vB_len h i
      have hr:=h.lr _ (List.getElem_mem h1)
      have hs:=h.sv _ (List.getElem_mem h1)
      have c1:=i_pack_put (vB es l i) (by omega) l[i].id l[i].label l[i].attr (by omega)
      have hq : (vB es l i++edB l[i].id l[i].label l[i].attr).length≤39000:=by rw [List.length_append,edB_len]; omega
      have hs1:=vB_succ (es:=es) h1
      generalize vB es l i++edB l[i].id l[i].label l[i].attr=Q at *
      have e1:=rowsBy_snoc cByte Q (u8 l[i].ring.length)
      rw [← u8_row] at e1
      have hW : (Q++[u8 l[i].ring.length]).length=Q.length+1:=by rw [List.length_append]; rfl
      have k1 : (Q.length+1) * 1≤140737488355328:=by omega
      have l3:=pack_Put_l3 l es (Q++[u8 l[i].ring.length]) l[i].ring (i : Int) (by omega) hr
      rw [rB_zero,rB_all,hs1,hW] at l3
      have t1:=rowsBy_takeAll cByte (vB es l i)
      have t2:=rowsBy_takeAll cByte Q
      simp only [f10_b2,dec_lt h1,h1z,rowsBy_get Vx.c h1,Vx.c,c1,t1,t2,e1,k1,l3,rowsBy_length,wrap_succ h1 hw,go_sem,seval]
    · simp only [f10_b2,dec_ge (Nat.le_refl l.length),go_sem,seval]
  exact l1
theorem may_sml {l : List Vx} {es : List Ed} (h : mayC l es=0) (hr : ∀ v∈l,v.ring.length≤82) : Sml l es∧(es.map Ed.id).Nodup:=by
  obtain ⟨hw,hl,_⟩:=formC_ok.1 (mayC_form h)
  have hml : ∀ s,mayLab s=true→s.size≤500:=by
    intro s hs
    unfold mayLab at hs
    simp only [Bool.and_eq_true,decide_eq_true_eq] at hs
    omega
  unfold labB at hl
  simp only [Bool.or_eq_false_iff,List.any_eq_false,Bool.not_eq_true',Bool.not_eq_false] at hl
  exact ⟨⟨by have:=hw.le; omega,by have:=hw.lv; omega,hr,fun e he => hml _ (hl.2 e he),fun v hv => hml _ (hl.1 v hv)⟩,hw.se.nodup⟩
theorem i_pack_PutF (l : List Vx) (es : List Ed) (hF : FitsR l) : call F 10 [.agg [.sl .shared 5 (rowsBy Vx.c l),.sl .shared 4 (rowsBy Ed.c es)]]=some (if mayC l es=0 then .tup [.sl (.own 5) 1 (rowsBy cByte (putD l es)),.int .i64 0] else .tup [.sl (.own 5) 1 [],.int .i64 (mayC l es)]):=by
  have c1:=i_euler_May l es hF
  by_cases hm : mayC l es=0
  · obtain ⟨h, hn⟩ := may_sml hm (fun v hv => by have := (formC_ok.1 (mayC_form hm)).1.ring80 hv; omega)
    rw [if_pos hm]
    rw [hm] at c1
    have l1:=pack_Put_l1 h hn
    have e0 : rowsBy cByte (pB es 0)=[[TV.int .u8 (IntKind.u8.wrap es.length)]]:=by
      show [cByte (u8 es.length)]=_
      rw [u8_row]
    rw [show (pB es 0).length=1 from rfl,e0,List.take_zero,show plI 0 []=[] from rfl] at l1
    have l2:=pack_Put_l2 h
    have e1 : rowsBy cByte (pB es es.length)++[[TV.int .u8 (IntKind.u8.wrap l.length)]]=rowsBy cByte (vB es l 0):=by rw [u8_row,rowsBy_snoc,vB_zero]
    have e2 : (vB es l 0).length=(pB es es.length).length+1:=by rw [vB_zero,List.length_append]; rfl
    have hp:=pB_len h es.length
    have k1 : ((pB es es.length).length+1) * 1≤140737488355328:=by omega
    have t1:=rowsBy_takeAll cByte (pB es es.length)
    have t2:=rowsBy_takeAll cByte (vB es l l.length)
    rw [e2] at l2
    rw [← vB_end]
    rw [call_code F (show F 10=some (.code f10) from rfl)]
    simp only [f10,c1,l1,l2,e1,k1,t1,t2,rowsBy_length,go_sem,seval]
  · have hd : decide (¬ mayC l es = 0) = true := dec_t hm
    rw [if_neg hm]
    generalize mayC l es=c at *
    rw [call_code F (show F 10=some (.code f10) from rfl)]
    simp only [f10,c1,hd,go_sem,seval]
theorem i_pack_Put (l : List Vx) (es : List Ed) (hr : ∀ v∈l,v.ring.length≤82) : call F 10 [.agg [.sl .shared 5 (rowsBy Vx.c l),.sl .shared 4 (rowsBy Ed.c es)]]=some (if mayC l es=0 then .tup [.sl (.own 5) 1 (rowsBy cByte (putD l es)),.int .i64 0] else .tup [.sl (.own 5) 1 [],.int .i64 (mayC l es)]):=i_pack_PutF l es (fun v hv => Fits.of (by have:=hr v hv; omega))
end Go.Proofs.Ytcecojdeljbjoaa.Sx
namespace Go.Proofs.Ytcecojdeljbjoaa.Sx
open Go
def vC : List Vx→LV
  | [] => .v (.sl (.tight 39) 5 [])
  | v :: r => .s 10320 0 (v :: r).length
def vH : List Vx→Hp→Hp
  | [],h => h
  | v :: r,h => upd h 10320 (some (.arr false 39 5 (rowsBy Vx.c (v :: r))))
def eC : List Ed→LV
  | [] => .v (.sl (.tight 36) 4 [])
  | v :: r => .s 10321 0 (v :: r).length
def eH : List Ed→Hp→Hp
  | [],h => h
  | v :: r,h => upd h 10321 (some (.arr false 36 4 (rowsBy Ed.c (v :: r))))
def zV : Ob:=.var false [.v (.sl (.tight 39) 5 []),.v (.sl (.tight 36) 4 [])]
def dV (vs : List Vx) (es : List Ed) : Ob:=.var false [vC vs,eC es]
def t1S (b0 : List UInt8) (n : Nat) (b : List UInt8) (bad : Bool) (es : List Ed) : St :=
  ⟨upd (upd (upd (upd (upd e0 6 (.v (.int .i64 (n : Int)))) 5 (.p 5 0)) 4 (.p 4 0)) 2 (.p 2 0)) 0 (.v (.sl .shared 1 (rowsBy cByte b0))),upd (upd (upd (eH es h0) 5 (some (dV [] es))) 4 (some (rdV b bad))) 2 (some zV)⟩
def t1E (b0 : List UInt8) (b : List UInt8) (bad : Bool) (es : List Ed) : St :=
  ⟨upd (upd (upd (upd e0 5 (.p 5 0)) 4 (.p 4 0)) 2 (.p 2 0)) 0 (.v (.sl .shared 1 (rowsBy cByte b0))),upd (upd (upd (eH es h0) 5 (some (dV [] es))) 4 (some (rdV b bad))) 2 (some zV)⟩
theorem zV_mask {lo : Nat} : ∀ (m : Nat) (j : List (Nat × Nat)),lo≤m→maskO m j (some zV)=some zV:=fun _ _ _ => rfl
theorem arr_maskT {f : Bool} {e sz : Nat} {rows : List (List TV)} {lo : Nat} : ∀ (m : Nat) (j : List (Nat × Nat)),lo≤m→maskO m j (some (.arr f e sz rows))=some (.arr f e sz rows):=fun _ _ _ => rfl
theorem vC_mask {m : Nat} (hm : 20000≤m) (j : List (Nat × Nat)) (vs : List Vx) : maskC m j (vC vs)=vC vs:=by
  cases vs with
  | nil => rfl
  | cons v r => simp only [vC,maskC,lk_lt (show 10320 < m by omega),renS]
theorem eC_mask {m : Nat} (hm : 20000≤m) (j : List (Nat × Nat)) (es : List Ed) : maskC m j (eC es)=eC es:=by
  cases es with
  | nil => rfl
  | cons v r => simp only [eC,maskC,lk_lt (show 10321 < m by omega),renS]
theorem dV_mask {vs : List Vx} {es : List Ed} {lo : Nat} (hlo : 20000≤lo) : ∀ (m : Nat) (j : List (Nat × Nat)),lo≤m→maskO m j (some (dV vs es))=some (dV vs es):=fun m j hm => by
  simp only [dV,maskO,maskCs,vC_mask (show 20000≤m by omega),eC_mask (show 20000≤m by omega)]
theorem eH_low {es : List Ed} {h : Hp} {lo : Nat} (hl : LowH h lo) (hlo : 20000≤lo) : LowH (eH es h) lo:=by
  cases es with
  | nil => exact hl
  | cons v r => exact hl.upd (by omega) arr_maskT
theorem vH_low {vs : List Vx} {h : Hp} {lo : Nat} (hl : LowH h lo) (hlo : 20000≤lo) : LowH (vH vs h) lo:=by
  cases vs with
  | nil => exact hl
  | cons v r => exact hl.upd (by omega) arr_maskT
theorem ed_snoc (es : List Ed) (x : Ed) : rowsBy Ed.c es++[[TV.int .i64 x.id.s,TV.int .i64 x.id.n,TV.str x.label,TV.int .i64 x.attr]]=rowsBy Ed.c (es++[x]):=by rw [← rowsBy_snoc]; rfl
theorem take_e1 (b0 : List UInt8) (n : Nat) (b : List UInt8) (es : List Ed) (hb : b.length≤100000) (hn : n≤1000) (hes : es.length≤1000) :
    E (cs F) 0 f21_b1 (t1S b0 (n+1) b false es)=some (.norm,t1S b0 n (thingP b).2.1 (!(thingP b).2.2) (es++[(thingP b).1])):=by
  have hR : RdAt (upd (upd (upd (eH es h0) 5 (some (dV [] es))) 4 (some (rdV b false))) 2 (some zV)) 2000000 4 b false :=
    ⟨(((eH_low (LowH.h0 _) (by decide)).upd (by decide) (dV_mask (by decide))).upd (by decide) rdV_mask).upd (by decide) zV_mask,by decide,rfl⟩
  have t1:=thing_i 2000000 (by decide) hR hb
  have q1 : decide (((n+1 : Nat) : Int) > 0)=true:=by rw [decide_eq_true_eq]; omega
  have hw : IntKind.i64.wrap (((n+1 : Nat) : Int) - 1)=(n : Int):=by rw [wrap64 (by omega) (by omega)]; omega
  have h40 : (es.length+1) * 40≤140737488355328:=by omega
  generalize thingP b=p at *
  obtain ⟨x,r,ok⟩:=p
  simp only [Bool.false_or] at t1 ⊢
  cases es with
  | nil =>
    have e1 : [[TV.int .i64 x.id.s,TV.int .i64 x.id.n,TV.str x.label,TV.int .i64 x.attr]]=rowsBy Ed.c [x]:=rfl
    simp only [eH,eC,vC,dV,zV,rdV] at t1
    simp only [f21_b1,t1S,eH,eC,vC,dV,zV,rdV,t1,q1,hw,e1,Nat.reduceLT,renP,decide_true,decide_false,List.nil_append,go_sem,seval]
  | cons y es =>
    have e1:=ed_snoc (y :: es) x
    have e2 : (y :: es)++[x]=y :: (es++[x]):=rfl
    have e3 : (y :: (es++[x])).length=(y :: es).length+1:=by simp
    rw [e2] at e1
    have tk:=rowsBy_takeAll Ed.c (y :: es)
    simp only [eH,eC,vC,dV,zV,rdV] at t1
    rw [e2]
    simp only [t1S,eH,eC,vC,dV,zV,rdV,e3]
    generalize y :: (es++[x])=L2 at *
    generalize y :: es=L1 at *
    simp only [f21_b1,t1,q1,hw,e1,tk,h40,Nat.reduceLT,renP,decide_true,decide_false,go_sem,seval]
theorem take_e0 (b0 : List UInt8) (b : List UInt8) (bad : Bool) (es : List Ed) : E (cs F) 0 f21_b1 (t1S b0 0 b bad es)=some (.exit 0,t1E b0 b bad es):=by
  cases es with
  | nil => simp only [f21_b1,t1S,t1E,eH,eC,vC,dV,zV,rdV,Nat.reduceLT,renP,decide_true,decide_false,show ((0 : Nat) : Int)=0 from rfl,go_sem,seval]
  | cons y es => simp only [f21_b1,t1S,t1E,eH,eC,vC,dV,zV,rdV,Nat.reduceLT,renP,decide_true,decide_false,show ((0 : Nat) : Int)=0 from rfl,go_sem,seval]
theorem take_eb (b0 : List UInt8) (n : Nat) (b : List UInt8) (es : List Ed) : E (cs F) 0 f21_b1 (t1S b0 n b true es)=some (.exit 0,t1E b0 b true es):=by
  by_cases hn : ((n : Int) > 0)
  · cases es with
    | nil => simp only [f21_b1,t1S,t1E,eH,eC,vC,dV,zV,rdV,hn,Nat.reduceLT,renP,decide_true,decide_false,go_sem,seval]
    | cons y es => simp only [f21_b1,t1S,t1E,eH,eC,vC,dV,zV,rdV,hn,Nat.reduceLT,renP,decide_true,decide_false,go_sem,seval]
  · cases es with
    | nil => simp only [f21_b1,t1S,t1E,eH,eC,vC,dV,zV,rdV,hn,Nat.reduceLT,renP,decide_true,decide_false,go_sem,seval]
    | cons y es => simp only [f21_b1,t1S,t1E,eH,eC,vC,dV,zV,rdV,hn,Nat.reduceLT,renP,decide_true,decide_false,go_sem,seval]
theorem take_el (b0 : List UInt8) : ∀ (n : Nat) (b : List UInt8) (bad : Bool) (es : List Ed),b.length≤100000→n+es.length≤1000 →
    E (cs F) 0 f21_l1 (t1S b0 n b bad es)=some (.exit 0,t1E b0 (runE n b bad).2.1 (runE n b bad).2.2 (es++(runE n b bad).1)):=by
  intro n
  induction n with
  | zero =>
    intro b bad es hb hn
    rw [f21_l1_eq,take_e0]
    simp only [runE,List.append_nil]; rfl
  | succ n ih =>
    intro b bad es hb hn
    cases bad with
    | true =>
      rw [f21_l1_eq,take_eb,runE_bad]
      simp only [List.append_nil]; rfl
    | false =>
      have hl:=thingP_le b
      have key:=ih (thingP b).2.1 (!(thingP b).2.2) (es++[(thingP b).1]) (by omega) (by rw [List.length_append]; simp; omega)
      rw [f21_l1_eq,take_e1 b0 n b es hb (by omega) (by omega)]
      simp only [List.append_assoc,List.singleton_append] at key
      simp only [runE]
      exact key
end Go.Proofs.Ytcecojdeljbjoaa.Sx
namespace Go.Proofs.Ytcecojdeljbjoaa.Sx
open Go
def rC : List Dart→LV
  | [] => .v (.sl (.tight 56) 3 [])
  | v :: r => .s 10578 0 (v :: r).length
def rH : List Dart→Hp→Hp
  | [],h => h
  | v :: r,h => upd h 10578 (some (.arr false 56 3 (rowsBy Dart.c (v :: r))))
def wV (t : Ed) (ring : List Dart) : Ob:=.var false [.v (.int .i64 t.id.s),.v (.int .i64 t.id.n),rC ring,.v (.str t.label),.v (.int .i64 t.attr)]
def t3H (b : List UInt8) (bad : Bool) (vs : List Vx) (es : List Ed) (t : Ed) (ring : List Dart) : Hp :=
  upd (upd (upd (upd (vH vs (eH es (rH ring h0))) 9 (some (wV t ring))) 5 (some (dV vs es))) 4 (some (rdV b bad))) 2 (some zV)
def t3S (b0 : List UInt8) (m : Nat) (b : List UInt8) (bad : Bool) (vs : List Vx) (es : List Ed) (t : Ed) (ring : List Dart) (fl : Fl) (c : List UInt8) (q : Nat) : St :=
  ⟨upd (upd (upd (upd (upd (upd (upd (upd (upd e0 89 (.v (.int .i64 (q : Int)))) 88 (.v (.int .i64 (c.length : Int)))) 87 (.v (.sl fl 1 (rowsBy cByte c)))) 9 (.p 9 0)) 7 (.v (.int .i64 (m : Int)))) 5 (.p 5 0)) 4 (.p 4 0)) 2 (.p 2 0)) 0 (.v (.sl .shared 1 (rowsBy cByte b0))),t3H b bad vs es t ring⟩
def t3E (b0 : List UInt8) (m : Nat) (b : List UInt8) (bad : Bool) (vs : List Vx) (es : List Ed) (t : Ed) (ring : List Dart) : St :=
  ⟨upd (upd (upd (upd (upd (upd e0 9 (.p 9 0)) 7 (.v (.int .i64 (m : Int)))) 5 (.p 5 0)) 4 (.p 4 0)) 2 (.p 2 0)) 0 (.v (.sl .shared 1 (rowsBy cByte b0))),t3H b bad vs es t ring⟩
def tRet : St:=⟨upd (upd e0 3 (.v (.int .i64 2))) 2 (.p 2 0),upd h0 2 (some zV)⟩
theorem dart_snoc (l : List Dart) (x : Dart) : rowsBy Dart.c l++[[TV.int .i64 x.e.s,TV.int .i64 x.e.n,TV.int .i64 x.d]]=rowsBy Dart.c (l++[x]):=by rw [← rowsBy_snoc]; rfl
theorem take_r1 (b0 : List UInt8) (m : Nat) (b : List UInt8) (bad : Bool) (vs : List Vx) (es : List Ed) (t : Ed) (ring : List Dart) (fl : Fl) (c : List UInt8) {q : Nat} (hq : q < c.length) (hc : c.length≤100000) (hring : ring.length≤100000) {x : Dart} (hx : dartP es c[q]=some x) :
    E (cs F) 0 f21_b3 (t3S b0 m b bad vs es t ring fl c q)=some (.norm,t3S b0 m b bad vs es t (ring++[x]) fl c (q+1)):=by
  have d1:=dec_lt hq
  have q1 : (q : Int) < (c.length : Int):=by omega
  have i0 : (0 : Int)≤(q : Int):=by omega
  have r1 : (rowsBy cByte c)[q]?=some [.int .u8 ((c[q]).toNat : Int)]:=rowsBy_get cByte hq
  have hw:=wrap_succ hq (by omega)
  have hcb:=(c[q]).toNat_lt
  have w1 : IntKind.i64.wrap ((c[q]).toNat : Int)=((c[q]).toNat : Int):=wbN c[q]
  have e1 : ((c[q]).toNat : Int).tmod 128=(((c[q]).toNat % 128 : Nat) : Int):=rfl
  have e2 : ((c[q]).toNat : Int).tdiv 128=(((c[q]).toNat / 128 : Nat) : Int):=rfl
  have w2 : IntKind.i64.wrap (((c[q]).toNat % 128 : Nat) : Int)=(((c[q]).toNat % 128 : Nat) : Int):=wrap64 (by omega) (by omega)
  have w3 : IntKind.i64.wrap (((c[q]).toNat / 128 : Nat) : Int)=(((c[q]).toNat / 128 : Nat) : Int):=wrap64 (by omega) (by omega)
  unfold dartP at hx
  split at hx
  · rename_i y hy
    obtain rfl:=Option.some.inj hx
    have hk : (c[q]).toNat % 128 < es.length:=by
      rw [List.getElem?_eq_some_iff] at hy
      exact hy.1
    have hyy : es[(c[q]).toNat % 128]'hk=y:=by rw [List.getElem?_eq_getElem hk] at hy; exact Option.some.inj hy
    have g1 : ¬ ((((c[q]).toNat % 128 : Nat) : Int) ≥ (es.length : Int)):=by omega
    have g2 : ((((c[q]).toNat % 128 : Nat) : Int) < (es.length : Int)):=by omega
    have g3 : (0 : Int)≤(((c[q]).toNat % 128 : Nat) : Int):=by omega
    have r2 : (rowsBy Ed.c es)[(c[q]).toNat % 128]?=some [.int .i64 y.id.s,.int .i64 y.id.n,.str y.label,.int .i64 y.attr]:=by rw [rowsBy_get Ed.c hk,hyy]; rfl
    cases es with
    | nil => simp at hk
    | cons e es =>
      generalize (c[q]).toNat % 128=k at *
      generalize (c[q]).toNat / 128=dd at *
      generalize ((c[q]).toNat : Int)=cc at *
      have sn:=dart_snoc ring ⟨y.id,(dd : Int)⟩
      have tk:=rowsBy_takeAll Dart.c ring
      have h24 : (ring.length+1) * 24≤140737488355328:=by omega
      cases ring with
      | nil =>
        have sn1 : [[TV.int .i64 y.id.s,TV.int .i64 y.id.n,TV.int .i64 (dd : Int)]]=rowsBy Dart.c [⟨y.id,(dd : Int)⟩]:=rfl
        rw [List.nil_append]
        cases vs with
        | nil =>
          simp only [t3S,t3H,wV,rC,rH,eH,eC,vC,vH,dV,zV,rdV]
          generalize e :: es=L1 at *
          simp only [f21_b3,d1,q1,i0,r1,hw,w1,e1,e2,w2,w3,g1,g2,g3,r2,sn1,rowsBy_length,Nat.reduceLT,renP,decide_true,decide_false,go_sem,seval]
        | cons v vs =>
          simp only [t3S,t3H,wV,rC,rH,eH,eC,vC,vH,dV,zV,rdV]
          generalize e :: es=L1 at *
          generalize v :: vs=V1 at *
          simp only [f21_b3,d1,q1,i0,r1,hw,w1,e1,e2,w2,w3,g1,g2,g3,r2,sn1,rowsBy_length,Nat.reduceLT,renP,decide_true,decide_false,go_sem,seval]
      | cons z ring =>
        have e3 : (z :: ring)++[⟨y.id,(dd : Int)⟩]=z :: (ring++[⟨y.id,(dd : Int)⟩]):=rfl
        have e4 : (z :: (ring++[⟨y.id,(dd : Int)⟩])).length=(z :: ring).length+1:=by simp
        rw [e3] at sn
        rw [e3]
        cases vs with
        | nil =>
          simp only [t3S,t3H,wV,rC,rH,eH,eC,vC,vH,dV,zV,rdV]
          generalize e :: es=L1 at *
          generalize z :: (ring++[(⟨y.id,(dd : Int)⟩ : Dart)])=R2 at *
          generalize z :: ring=R1 at *
          simp only [f21_b3,d1,q1,i0,r1,hw,w1,e1,e2,w2,w3,g1,g2,g3,r2,sn,tk,h24,e4,rowsBy_length,Nat.reduceLT,renP,decide_true,decide_false,go_sem,seval]
        | cons v vs =>
          simp only [t3S,t3H,wV,rC,rH,eH,eC,vC,vH,dV,zV,rdV]
          generalize e :: es=L1 at *
          generalize v :: vs=V1 at *
          generalize z :: (ring++[(⟨y.id,(dd : Int)⟩ : Dart)])=R2 at *
          generalize z :: ring=R1 at *
          simp only [f21_b3,d1,q1,i0,r1,hw,w1,e1,e2,w2,w3,g1,g2,g3,r2,sn,tk,h24,e4,rowsBy_length,Nat.reduceLT,renP,decide_true,decide_false,go_sem,seval]
  · cases hx
end Go.Proofs.Ytcecojdeljbjoaa.Sx
namespace Go.Proofs.Ytcecojdeljbjoaa.Sx
open Go
theorem take_r0 (b0 : List UInt8) (m : Nat) (b : List UInt8) (bad : Bool) (vs : List Vx) (es : List Ed) (t : Ed) (ring : List Dart) (fl : Fl) (c : List UInt8) {q : Nat} (hq : q < c.length) (hc : c.length≤100000) (hx : dartP es c[q]=none) :
    E (cs F) 0 f21_b3 (t3S b0 m b bad vs es t ring fl c q)=some (.ret,tRet):=by
  have d1:=dec_lt hq
  have q1 : (q : Int) < (c.length : Int):=by omega
  have i0 : (0 : Int)≤(q : Int):=by omega
  have r1 : (rowsBy cByte c)[q]?=some [.int .u8 ((c[q]).toNat : Int)]:=rowsBy_get cByte hq
  have hcb:=(c[q]).toNat_lt
  have w1 : IntKind.i64.wrap ((c[q]).toNat : Int)=((c[q]).toNat : Int):=wbN c[q]
  have e1 : ((c[q]).toNat : Int).tmod 128=(((c[q]).toNat % 128 : Nat) : Int):=rfl
  have w2 : IntKind.i64.wrap (((c[q]).toNat % 128 : Nat) : Int)=(((c[q]).toNat % 128 : Nat) : Int):=wrap64 (by omega) (by omega)
  have hk : es.length≤(c[q]).toNat % 128:=by
    refine Nat.not_lt.1 fun h => ?_
    unfold dartP at hx
    rw [List.getElem?_eq_getElem h] at hx
    cases hx
  have g1 : ((((c[q]).toNat % 128 : Nat) : Int) ≥ (es.length : Int)):=by omega
  have g0 : ((((c[q]).toNat % 128 : Nat) : Int) ≥ 0):=by omega
  generalize (c[q]).toNat % 128=k at *
  generalize ((c[q]).toNat : Int)=cc at *
  cases es with
  | nil =>
    cases ring with
    | nil => cases vs<;>(simp only [t3S,t3H,wV,rC,rH,eH,eC,vC,vH,dV,zV,rdV,tRet]; simp only [f21_b3,d1,q1,i0,r1,w1,e1,w2,g0,rowsBy_length,Nat.reduceLT,renP,decide_true,decide_false,go_sem,seval])
    | cons z ring => cases vs<;>(simp only [t3S,t3H,wV,rC,rH,eH,eC,vC,vH,dV,zV,rdV,tRet]; simp only [f21_b3,d1,q1,i0,r1,w1,e1,w2,g0,rowsBy_length,Nat.reduceLT,renP,decide_true,decide_false,go_sem,seval])
  | cons e es =>
    cases ring with
    | nil =>
      cases vs <;>
      (simp only [t3S,t3H,wV,rC,rH,eH,eC,vC,vH,dV,zV,rdV,tRet]
       generalize e :: es=L1 at *
       simp only [f21_b3,d1,q1,i0,r1,w1,e1,w2,g1,rowsBy_length,Nat.reduceLT,renP,decide_true,decide_false,go_sem,seval])
    | cons z ring =>
      cases vs <;>
      (simp only [t3S,t3H,wV,rC,rH,eH,eC,vC,vH,dV,zV,rdV,tRet]
       generalize e :: es=L1 at *
       simp only [f21_b3,d1,q1,i0,r1,w1,e1,w2,g1,rowsBy_length,Nat.reduceLT,renP,decide_true,decide_false,go_sem,seval])
theorem take_rE (b0 : List UInt8) (m : Nat) (b : List UInt8) (bad : Bool) (vs : List Vx) (es : List Ed) (t : Ed) (ring : List Dart) (fl : Fl) (c : List UInt8) :
    E (cs F) 0 f21_b3 (t3S b0 m b bad vs es t ring fl c c.length)=some (.exit 4,t3E b0 m b bad vs es t ring):=by
  have d1:=dec_ge (Nat.le_refl c.length)
  simp only [t3S,t3E]
  cases es with
  | nil =>
    cases ring with
    | nil => cases vs<;>(simp only [t3H,wV,rC,rH,eH,eC,vC,vH,dV,zV,rdV]; simp only [f21_b3,d1,Nat.reduceLT,renP,decide_true,decide_false,go_sem,seval])
    | cons z ring => cases vs<;>(simp only [t3H,wV,rC,rH,eH,eC,vC,vH,dV,zV,rdV]; simp only [f21_b3,d1,Nat.reduceLT,renP,decide_true,decide_false,go_sem,seval])
  | cons e es =>
    cases ring with
    | nil => cases vs<;>(simp only [t3H,wV,rC,rH,eH,eC,vC,vH,dV,zV,rdV]; simp only [f21_b3,d1,Nat.reduceLT,renP,decide_true,decide_false,go_sem,seval])
    | cons z ring => cases vs<;>(simp only [t3H,wV,rC,rH,eH,eC,vC,vH,dV,zV,rdV]; simp only [f21_b3,d1,Nat.reduceLT,renP,decide_true,decide_false,go_sem,seval])
theorem take_rl (b0 : List UInt8) (m : Nat) (b : List UInt8) (bad : Bool) (vs : List Vx) (es : List Ed) (t : Ed) (fl : Fl) (c : List UInt8) (hc : c.length≤100000) : ∀ (k q : Nat) (ring : List Dart),c.length - q=k→q≤c.length→ring.length≤q →
    E (cs F) 0 f21_l3 (t3S b0 m b bad vs es t ring fl c q)=match dartsP es (c.drop q) with
      | some r => some (.exit 4,t3E b0 m b bad vs es t (ring++r))
      | none => some (.ret,tRet):=by
  intro k
  induction k with
  | zero =>
    intro q ring hk hq hr
    have : q=c.length:=by omega
    subst this
    rw [f21_l3_eq,take_rE,List.drop_length]
    simp only [dartsP,List.append_nil]; rfl
  | succ k ih =>
    intro q ring hk hq hr
    have hq2 : q < c.length:=by omega
    rw [f21_l3_eq,List.drop_eq_getElem_cons hq2]
    cases hx : dartP es c[q] with
    | none =>
      rw [take_r0 b0 m b bad vs es t ring fl c hq2 hc hx]
      simp only [dartsP,hx]; rfl
    | some x =>
      rw [take_r1 b0 m b bad vs es t ring fl c hq2 hc (by omega) hx]
      have key:=ih (q+1) (ring++[x]) (by omega) (by omega) (by rw [List.length_append]; simp; omega)
      refine Eq.trans key ?_
      cases hd : dartsP es (c.drop (q+1)) with
      | none => simp only [dartsP,hx,hd]
      | some r => simp only [dartsP,hx,hd,List.append_assoc,List.singleton_append]
end Go.Proofs.Ytcecojdeljbjoaa.Sx
namespace Go.Proofs.Ytcecojdeljbjoaa.Sx
open Go
def t2S (b0 : List UInt8) (m : Nat) (b : List UInt8) (bad : Bool) (vs : List Vx) (es : List Ed) : St :=
  ⟨upd (upd (upd (upd (upd e0 7 (.v (.int .i64 (m : Int)))) 5 (.p 5 0)) 4 (.p 4 0)) 2 (.p 2 0)) 0 (.v (.sl .shared 1 (rowsBy cByte b0))),upd (upd (upd (vH vs (eH es h0)) 5 (some (dV vs es))) 4 (some (rdV b bad))) 2 (some zV)⟩
def t2E (b0 : List UInt8) (b : List UInt8) (bad : Bool) (vs : List Vx) (es : List Ed) : St :=
  ⟨upd (upd (upd (upd e0 5 (.p 5 0)) 4 (.p 4 0)) 2 (.p 2 0)) 0 (.v (.sl .shared 1 (rowsBy cByte b0))),upd (upd (upd (vH vs (eH es h0)) 5 (some (dV vs es))) 4 (some (rdV b bad))) 2 (some zV)⟩
theorem vx_snoc (l : List Vx) (x : Vx) : rowsBy Vx.c l++[[TV.int .i64 x.id.s,TV.int .i64 x.id.n,TV.sl .shared 3 (rowsBy Dart.c x.ring),TV.str x.label,TV.int .i64 x.attr]]=rowsBy Vx.c (l++[x]):=by rw [← rowsBy_snoc]; rfl
def t3X (b0 : List UInt8) (m : Nat) (b : List UInt8) (bad : Bool) (vs : List Vx) (es : List Ed) (t : Ed) : St :=
  ⟨upd (upd (upd (upd (upd (upd (upd (upd (upd e0 89 (.v (.int .i64 0))) 88 (.v (.int .i64 0))) 87 (.s 87 0 0)) 9 (.p 9 0)) 7 (.v (.int .i64 (m : Int)))) 5 (.p 5 0)) 4 (.p 4 0)) 2 (.p 2 0)) 0 (.v (.sl .shared 1 (rowsBy cByte b0))),
   upd (upd (upd (upd (upd (vH vs (eH es h0)) 87 (some (.arr false 5 1 []))) 9 (some (wV t []))) 5 (some (dV vs es))) 4 (some (rdV b bad))) 2 (some zV)⟩
theorem take_rX (b0 : List UInt8) (m : Nat) (b : List UInt8) (bad : Bool) (vs : List Vx) (es : List Ed) (t : Ed) :
    E (cs F) 0 f21_l3 (t3X b0 m b bad vs es t)=some (.exit 4,t3E b0 m b bad vs es t []):=by
  rw [f21_l3_eq]
  cases es with
  | nil => cases vs<;>(simp only [t3X,t3E,t3H,wV,rC,rH,eH,eC,vC,vH,dV,zV,rdV]; simp only [f21_b3,Nat.reduceLT,renP,renS,decide_true,decide_false,go_sem,seval])
  | cons e es => cases vs<;>(simp only [t3X,t3E,t3H,wV,rC,rH,eH,eC,vC,vH,dV,zV,rdV]; simp only [f21_b3,Nat.reduceLT,renP,renS,decide_true,decide_false,go_sem,seval])
set_option maxHeartbeats 8000000 in
theorem take_v1 (b0 : List UInt8) (m : Nat) (b : List UInt8) (vs : List Vx) (es : List Ed) (hb : b.length≤100000) (hm : m≤1000) (hvs : vs.length≤1000) :
    E (cs F) 0 f21_b2 (t2S b0 (m+1) b false vs es)=match vertR es b with
      | some (v,r,bad) => some (.norm,t2S b0 m r bad (vs++[v]) es)
      | none => some (.ret,tRet):=by
  have hR : RdAt (upd (upd (upd (vH vs (eH es h0)) 5 (some (dV vs es))) 4 (some (rdV b false))) 2 (some zV)) 4000000 4 b false :=
    ⟨(((vH_low (eH_low (LowH.h0 _) (by decide)) (by decide)).upd (by decide) (dV_mask (by decide))).upd (by decide) rdV_mask).upd (by decide) zV_mask,by decide,rfl⟩
  have t1:=thing_i 4000000 (by decide) hR hb
  have q1 : decide (((m+1 : Nat) : Int) > 0)=true:=by rw [decide_eq_true_eq]; omega
  have hw : IntKind.i64.wrap (((m+1 : Nat) : Int) - 1)=(m : Int):=by rw [wrap64 (by omega) (by omega)]; omega
  have h64 : (vs.length+1) * 64≤140737488355328:=by omega
  have hl1:=thingP_le b
  unfold vertR
  generalize thingP b=p at *
  obtain ⟨x,r1,ok⟩:=p
  simp only [Bool.false_or] at t1 hl1 ⊢
  have c1:=i_pack_counted r1 (by omega)
  have hl2:=takeC_le r1
  have hcn:=takeC_len r1
  unfold takeCT at c1
  generalize takeC r1=p at *
  obtain ⟨c,r2,ok2⟩:=p
  simp only at c1 hl2 hcn ⊢
  have hX:=fun bad => take_rX b0 (m+1) r2 bad vs es x
  have hL:=fun fl bad => take_rl b0 (m+1) r2 bad vs es x fl c (by omega) _ 0 [] rfl (by omega) (by simp)
  simp only [List.drop_zero,List.nil_append] at hL
  cases hd : dartsP es c with
  | none =>
    simp only [hd] at hL
    simp only [Option.map_none]
    cases ok2 with
    | false =>
      obtain rfl:=hcn rfl
      cases hd
    | true =>
      cases vs with
      | nil =>
        cases es with
        | nil =>
          simp only [t3S,t3H,t3E,wV,rC,rH,eH,eC,vC,vH,dV,zV,rdV,tRet,nat0] at hL t1
          simp only [t2S,tRet,eH,eC,vC,vH,dV,zV,rdV]
          cases ok <;>
          simp only [f21_b2,t1,c1,q1,hL,rowsBy_length,Nat.reduceLT,renP,decide_true,decide_false,Bool.not_true,Bool.not_false,Bool.or_true,Bool.or_false,Bool.true_or,Bool.false_or,go_sem,seval]
        | cons e es =>
          simp only [t3S,t3H,t3E,wV,rC,rH,eH,eC,vC,vH,dV,zV,rdV,tRet,nat0] at hL t1
          simp only [t2S,tRet,eH,eC,vC,vH,dV,zV,rdV]
          generalize e :: es=L1 at *
          cases ok <;>
          simp only [f21_b2,t1,c1,q1,hL,rowsBy_length,Nat.reduceLT,renP,decide_true,decide_false,Bool.not_true,Bool.not_false,Bool.or_true,Bool.or_false,Bool.true_or,Bool.false_or,go_sem,seval]
      | cons v vs =>
        cases es with
        | nil =>
          simp only [t3S,t3H,t3E,wV,rC,rH,eH,eC,vC,vH,dV,zV,rdV,tRet,nat0] at hL t1
          simp only [t2S,tRet,eH,eC,vC,vH,dV,zV,rdV]
          generalize v :: vs=V1 at *
          cases ok <;>
          simp only [f21_b2,t1,c1,q1,hL,rowsBy_length,Nat.reduceLT,renP,decide_true,decide_false,Bool.not_true,Bool.not_false,Bool.or_true,Bool.or_false,Bool.true_or,Bool.false_or,go_sem,seval]
        | cons e es =>
          simp only [t3S,t3H,t3E,wV,rC,rH,eH,eC,vC,vH,dV,zV,rdV,tRet,nat0] at hL t1
          simp only [t2S,tRet,eH,eC,vC,vH,dV,zV,rdV]
          generalize e :: es=L1 at *
          generalize v :: vs=V1 at *
          cases ok <;>
          simp only [f21_b2,t1,c1,q1,hL,rowsBy_length,Nat.reduceLT,renP,decide_true,decide_false,Bool.not_true,Bool.not_false,Bool.or_true,Bool.or_false,Bool.true_or,Bool.false_or,go_sem,seval]
  | some ring =>
    simp only [hd] at hL
    simp only [Option.map_some]
    cases ok2 with
    | false =>
      obtain rfl:=hcn rfl
      obtain rfl:=Option.some.inj hd
      cases vs with
      | nil =>
        have sn : [[TV.int .i64 x.id.s,TV.int .i64 x.id.n,TV.sl .shared 3 (rowsBy Dart.c []),TV.str x.label,TV.int .i64 x.attr]]=rowsBy Vx.c [⟨x.id,[],x.label,x.attr⟩]:=rfl
        simp only [rowsBy_nil] at sn
        rw [List.nil_append]
        cases es with
        | nil =>
          simp only [t3X,t3H,t3E,wV,rC,rH,eH,eC,vC,vH,dV,zV,rdV,tRet,nat0,rowsBy_nil,List.length_nil] at hX t1
          simp only [t2S,tRet,eH,eC,vC,vH,dV,zV,rdV]
          cases ok <;>
          simp only [f21_b2,t1,c1,q1,hX,rowsBy_length,Nat.reduceLT,renP,decide_true,decide_false,Bool.not_true,Bool.not_false,Bool.or_true,Bool.or_false,Bool.true_or,Bool.false_or,hw,sn,go_sem,seval]
        | cons e es =>
          simp only [t3X,t3H,t3E,wV,rC,rH,eH,eC,vC,vH,dV,zV,rdV,tRet,nat0,rowsBy_nil,List.length_nil] at hX t1
          simp only [t2S,tRet,eH,eC,vC,vH,dV,zV,rdV]
          generalize e :: es=L1 at *
          cases ok <;>
          simp only [f21_b2,t1,c1,q1,hX,rowsBy_length,Nat.reduceLT,renP,decide_true,decide_false,Bool.not_true,Bool.not_false,Bool.or_true,Bool.or_false,Bool.true_or,Bool.false_or,hw,sn,go_sem,seval]
      | cons v vs =>
        have e3 : (v :: vs)++[(⟨x.id,[],x.label,x.attr⟩ : Vx)]=v :: (vs++[⟨x.id,[],x.label,x.attr⟩]):=rfl
        have e4 : (v :: (vs++[(⟨x.id,[],x.label,x.attr⟩ : Vx)])).length=(v :: vs).length+1:=by simp
        have sn:=vx_snoc (v :: vs) ⟨x.id,[],x.label,x.attr⟩
        have tk:=rowsBy_takeAll Vx.c (v :: vs)
        rw [e3] at sn
        simp only [rowsBy_nil] at sn
        rw [e3]
        cases es with
        | nil =>
          simp only [t3X,t3H,t3E,wV,rC,rH,eH,eC,vC,vH,dV,zV,rdV,tRet,nat0,rowsBy_nil,List.length_nil] at hX t1
          simp only [t2S,tRet,eH,eC,vC,vH,dV,zV,rdV]
          generalize v :: (vs++[(⟨x.id,[],x.label,x.attr⟩ : Vx)])=V2 at *
          generalize v :: vs=V1 at *
          cases ok <;>
          simp only [f21_b2,t1,c1,q1,hX,rowsBy_length,Nat.reduceLT,renP,decide_true,decide_false,Bool.not_true,Bool.not_false,Bool.or_true,Bool.or_false,Bool.true_or,Bool.false_or,hw,sn,tk,h64,e4,go_sem,seval]
        | cons e es =>
          simp only [t3X,t3H,t3E,wV,rC,rH,eH,eC,vC,vH,dV,zV,rdV,tRet,nat0,rowsBy_nil,List.length_nil] at hX t1
          simp only [t2S,tRet,eH,eC,vC,vH,dV,zV,rdV]
          generalize e :: es=L1 at *
          generalize v :: (vs++[(⟨x.id,[],x.label,x.attr⟩ : Vx)])=V2 at *
          generalize v :: vs=V1 at *
          cases ok <;>
          simp only [f21_b2,t1,c1,q1,hX,rowsBy_length,Nat.reduceLT,renP,decide_true,decide_false,Bool.not_true,Bool.not_false,Bool.or_true,Bool.or_false,Bool.true_or,Bool.false_or,hw,sn,tk,h64,e4,go_sem,seval]
    | true =>
      cases ring with
      | nil =>
        cases vs with
        | nil =>
          have sn : [[TV.int .i64 x.id.s,TV.int .i64 x.id.n,TV.sl .shared 3 (rowsBy Dart.c []),TV.str x.label,TV.int .i64 x.attr]]=rowsBy Vx.c [⟨x.id,[],x.label,x.attr⟩]:=rfl
          simp only [rowsBy_nil] at sn
          rw [List.nil_append]
          cases es with
          | nil =>
            simp only [t3S,t3H,t3E,wV,rC,rH,eH,eC,vC,vH,dV,zV,rdV,tRet,nat0] at hL t1
            simp only [t2S,tRet,eH,eC,vC,vH,dV,zV,rdV]
            cases ok <;>
            simp only [f21_b2,t1,c1,q1,hL,rowsBy_length,Nat.reduceLT,renP,decide_true,decide_false,Bool.not_true,Bool.not_false,Bool.or_true,Bool.or_false,Bool.true_or,Bool.false_or,hw,sn,go_sem,seval]
          | cons e es =>
            simp only [t3S,t3H,t3E,wV,rC,rH,eH,eC,vC,vH,dV,zV,rdV,tRet,nat0] at hL t1
            simp only [t2S,tRet,eH,eC,vC,vH,dV,zV,rdV]
            generalize e :: es=L1 at *
            cases ok <;>
            simp only [f21_b2,t1,c1,q1,hL,rowsBy_length,Nat.reduceLT,renP,decide_true,decide_false,Bool.not_true,Bool.not_false,Bool.or_true,Bool.or_false,Bool.true_or,Bool.false_or,hw,sn,go_sem,seval]
        | cons v vs =>
          have e3 : (v :: vs)++[(⟨x.id,[],x.label,x.attr⟩ : Vx)]=v :: (vs++[⟨x.id,[],x.label,x.attr⟩]):=rfl
          have e4 : (v :: (vs++[(⟨x.id,[],x.label,x.attr⟩ : Vx)])).length=(v :: vs).length+1:=by simp
          have sn:=vx_snoc (v :: vs) ⟨x.id,[],x.label,x.attr⟩
          have tk:=rowsBy_takeAll Vx.c (v :: vs)
          rw [e3] at sn
          simp only [rowsBy_nil] at sn
          rw [e3]
          cases es with
          | nil =>
            simp only [t3S,t3H,t3E,wV,rC,rH,eH,eC,vC,vH,dV,zV,rdV,tRet,nat0] at hL t1
            simp only [t2S,tRet,eH,eC,vC,vH,dV,zV,rdV]
            generalize v :: (vs++[(⟨x.id,[],x.label,x.attr⟩ : Vx)])=V2 at *
            generalize v :: vs=V1 at *
            cases ok <;>
            simp only [f21_b2,t1,c1,q1,hL,rowsBy_length,Nat.reduceLT,renP,decide_true,decide_false,Bool.not_true,Bool.not_false,Bool.or_true,Bool.or_false,Bool.true_or,Bool.false_or,hw,sn,tk,h64,e4,go_sem,seval]
          | cons e es =>
            simp only [t3S,t3H,t3E,wV,rC,rH,eH,eC,vC,vH,dV,zV,rdV,tRet,nat0] at hL t1
            simp only [t2S,tRet,eH,eC,vC,vH,dV,zV,rdV]
            generalize e :: es=L1 at *
            generalize v :: (vs++[(⟨x.id,[],x.label,x.attr⟩ : Vx)])=V2 at *
            generalize v :: vs=V1 at *
            cases ok <;>
            simp only [f21_b2,t1,c1,q1,hL,rowsBy_length,Nat.reduceLT,renP,decide_true,decide_false,Bool.not_true,Bool.not_false,Bool.or_true,Bool.or_false,Bool.true_or,Bool.false_or,hw,sn,tk,h64,e4,go_sem,seval]
      | cons d ring =>
        have tkr:=rowsBy_takeAll Dart.c (d :: ring)
        cases vs with
        | nil =>
          have sn : [[TV.int .i64 x.id.s,TV.int .i64 x.id.n,TV.sl .shared 3 (rowsBy Dart.c (d :: ring)),TV.str x.label,TV.int .i64 x.attr]]=rowsBy Vx.c [⟨x.id,d :: ring,x.label,x.attr⟩]:=rfl
          rw [List.nil_append]
          cases es with
          | nil =>
            simp only [t3S,t3H,t3E,wV,rC,rH,eH,eC,vC,vH,dV,zV,rdV,tRet,nat0] at hL t1
            simp only [t2S,tRet,eH,eC,vC,vH,dV,zV,rdV]
            cases ok <;>
            simp only [f21_b2,t1,c1,q1,hL,rowsBy_length,Nat.reduceLT,renP,decide_true,decide_false,Bool.not_true,Bool.not_false,Bool.or_true,Bool.or_false,Bool.true_or,Bool.false_or,hw,sn,tkr,go_sem,seval]
          | cons e es =>
            simp only [t3S,t3H,t3E,wV,rC,rH,eH,eC,vC,vH,dV,zV,rdV,tRet,nat0] at hL t1
            simp only [t2S,tRet,eH,eC,vC,vH,dV,zV,rdV]
            generalize e :: es=L1 at *
            cases ok <;>
            simp only [f21_b2,t1,c1,q1,hL,rowsBy_length,Nat.reduceLT,renP,decide_true,decide_false,Bool.not_true,Bool.not_false,Bool.or_true,Bool.or_false,Bool.true_or,Bool.false_or,hw,sn,tkr,go_sem,seval]
        | cons v vs =>
          have e3 : (v :: vs)++[(⟨x.id,d :: ring,x.label,x.attr⟩ : Vx)]=v :: (vs++[⟨x.id,d :: ring,x.label,x.attr⟩]):=rfl
          have e4 : (v :: (vs++[(⟨x.id,d :: ring,x.label,x.attr⟩ : Vx)])).length=(v :: vs).length+1:=by simp
          have sn:=vx_snoc (v :: vs) ⟨x.id,d :: ring,x.label,x.attr⟩
          have tk:=rowsBy_takeAll Vx.c (v :: vs)
          rw [e3] at sn
          rw [e3]
          cases es with
          | nil =>
            simp only [t3S,t3H,t3E,wV,rC,rH,eH,eC,vC,vH,dV,zV,rdV,tRet,nat0] at hL t1
            simp only [t2S,tRet,eH,eC,vC,vH,dV,zV,rdV]
            generalize v :: (vs++[(⟨x.id,d :: ring,x.label,x.attr⟩ : Vx)])=V2 at *
            generalize v :: vs=V1 at *
            cases ok <;>
            simp only [f21_b2,t1,c1,q1,hL,rowsBy_length,Nat.reduceLT,renP,decide_true,decide_false,Bool.not_true,Bool.not_false,Bool.or_true,Bool.or_false,Bool.true_or,Bool.false_or,hw,sn,tk,h64,e4,tkr,go_sem,seval]
          | cons e es =>
            simp only [t3S,t3H,t3E,wV,rC,rH,eH,eC,vC,vH,dV,zV,rdV,tRet,nat0] at hL t1
            simp only [t2S,tRet,eH,eC,vC,vH,dV,zV,rdV]
            generalize e :: es=L1 at *
            generalize v :: (vs++[(⟨x.id,d :: ring,x.label,x.attr⟩ : Vx)])=V2 at *
            generalize v :: vs=V1 at *
            cases ok <;>
            simp only [f21_b2,t1,c1,q1,hL,rowsBy_length,Nat.reduceLT,renP,decide_true,decide_false,Bool.not_true,Bool.not_false,Bool.or_true,Bool.or_false,Bool.true_or,Bool.false_or,hw,sn,tk,h64,e4,tkr,go_sem,seval]
end Go.Proofs.Ytcecojdeljbjoaa.Sx
namespace Go.Proofs.Ytcecojdeljbjoaa.Sx
open Go
theorem vertR_le {es : List Ed} {b : List UInt8} {v : Vx} {r : List UInt8} {bad : Bool} (h : vertR es b=some (v,r,bad)) : r.length≤b.length∧v.ring.length≤b.length:=by
  unfold vertR at h
  obtain ⟨q,hq,h2⟩:=Option.map_eq_some_iff.1 h
  simp only [Prod.mk.injEq] at h2
  obtain ⟨rfl,rfl,_⟩:=h2
  have h1:=thingP_le b
  have h2:=takeC_le (thingP b).2.1
  have h3:=dartsP_len hq
  exact ⟨by omega,by show q.length≤_; omega⟩
theorem runV_ring (es : List Ed) : ∀ (n : Nat) (b : List UInt8) (bad : Bool) (l : List Vx) (r : List UInt8) (bad' : Bool),runV es n b bad=some (l,r,bad')→∀ v∈l,v.ring.length≤b.length
  | 0, b, bad, l, r, bad', h => by
    obtain ⟨rfl,_⟩:=Prod.mk.inj (Option.some.inj h)
    simp
  | n + 1, b, true, l, r, bad', h => by
    obtain ⟨rfl,_⟩:=Prod.mk.inj (Option.some.inj h)
    simp
  | n + 1, b, false, l, r, bad', h => by
    simp only [runV] at h
    split at h
    · cases h
    · rename_i v r2 bad2 hv
      obtain ⟨p,hp,h2⟩:=Option.map_eq_some_iff.1 h
      obtain ⟨l2,q⟩:=p
      simp only [Prod.mk.injEq] at h2
      obtain ⟨rfl,_⟩:=h2
      have hl:=vertR_le hv
      intro w hw
      rcases List.mem_cons.1 hw with rfl | hw
      · exact hl.2
      · have := runV_ring es n r2 bad2 l2 q.1 q.2 hp w hw
        omega
theorem runE_le : ∀ (n : Nat) (b : List UInt8) (bad : Bool),(runE n b bad).2.1.length≤b.length∧(runE n b bad).1.length≤n
  | 0,b,bad => by simp [runE]
  | n+1,b,true => by simp [runE]
  | n + 1, b, false => by
    have h1:=thingP_le b
    have h2:=runE_le n (thingP b).2.1 (!(thingP b).2.2)
    simp only [runE,List.length_cons]
    omega
theorem nextR_le (b : List UInt8) (bad : Bool) : (nextR b bad).2.1.length≤b.length∧(nextR b bad).1≤255:=by
  cases b with
  | nil => simp [nextR]
  | cons c r => have:=c.toNat_lt; simp only [nextR,List.length_cons]; omega
theorem take_v0 (b0 : List UInt8) (b : List UInt8) (bad : Bool) (vs : List Vx) (es : List Ed) : E (cs F) 0 f21_b2 (t2S b0 0 b bad vs es)=some (.exit 2,t2E b0 b bad vs es):=by
  cases es<;>cases vs <;>
  (simp only [t2S,t2E,eH,eC,vC,vH,dV,zV,rdV]; simp only [f21_b2,Nat.reduceLT,renP,decide_true,decide_false,show ((0 : Nat) : Int)=0 from rfl,go_sem,seval])
theorem take_vb (b0 : List UInt8) (m : Nat) (b : List UInt8) (vs : List Vx) (es : List Ed) : E (cs F) 0 f21_b2 (t2S b0 m b true vs es)=some (.exit 2,t2E b0 b true vs es):=by
  by_cases hn : ((m : Int) > 0)
  · cases es <;> cases vs <;>
    (simp only [t2S,t2E,eH,eC,vC,vH,dV,zV,rdV]; simp only [f21_b2,hn,Nat.reduceLT,renP,decide_true,decide_false,go_sem,seval])
  · cases es <;> cases vs <;>
    (simp only [t2S,t2E,eH,eC,vC,vH,dV,zV,rdV]; simp only [f21_b2,hn,Nat.reduceLT,renP,decide_true,decide_false,go_sem,seval])
theorem take_vl (b0 : List UInt8) (es : List Ed) : ∀ (m : Nat) (b : List UInt8) (bad : Bool) (vs : List Vx),b.length≤100000→m+vs.length≤1000 →
    E (cs F) 0 f21_l2 (t2S b0 m b bad vs es)=match runV es m b bad with
      | some (l,r,bad') => some (.exit 2,t2E b0 r bad' (vs++l) es)
      | none => some (.ret,tRet):=by
  intro m
  induction m with
  | zero =>
    intro b bad vs hb hm
    rw [f21_l2_eq,take_v0]
    simp only [runV,List.append_nil]; rfl
  | succ m ih =>
    intro b bad vs hb hm
    cases bad with
    | true =>
      rw [f21_l2_eq,take_vb,runV_bad]
      simp only [List.append_nil]; rfl
    | false =>
      rw [f21_l2_eq,take_v1 b0 m b vs es hb (by omega) (by omega)]
      cases hv : vertR es b with
      | none => simp only [runV,hv]; rfl
      | some p =>
        obtain ⟨v,r,bad2⟩:=p
        have hl:=vertR_le hv
        have key:=ih r bad2 (vs++[v]) (by omega) (by rw [List.length_append]; simp; omega)
        simp only [runV,hv]
        refine Eq.trans key ?_
        cases hr : runV es m r bad2 with
        | none => rfl
        | some p =>
          obtain ⟨l,r2,bad3⟩:=p
          simp only [Option.map_some,List.append_assoc,List.singleton_append]
theorem i_bytes_Equal (fa fb : Fl) (a b : List UInt8) : call F 33 [.sl fa 1 (rowsBy cByte a),.sl fb 1 (rowsBy cByte b)]=some (.bool (decide (a=b))):=by
  have h : (a == b)=decide (a=b):=by
    by_cases h : a=b
    · subst h; simp
    · simp [h]
  rw [call_code F (show F 33=some (.code f33) from rfl)]
  simp only [f33,bytesOf_rows,h,go_sem,seval]
end Go.Proofs.Ytcecojdeljbjoaa.Sx
namespace Go.Proofs.Ytcecojdeljbjoaa.Sx
open Go
def oV : List Vx→Fl
  | [] => .own 39
  | _ :: _ => .shared
def oE : List Ed→Fl
  | [] => .own 36
  | _ :: _ => .shared
noncomputable def takeDT (b : List UInt8) : TV:=match takeD b with
  | some (l,es) => .tup [.agg [.sl (oV l) 5 (rowsBy Vx.c l),.sl (oE es) 4 (rowsBy Ed.c es)],.int .i64 0]
  | none => .tup [.agg [.sl (.own 39) 5 [],.sl (.own 36) 4 []],.int .i64 2]
set_option maxHeartbeats 4000000 in
theorem i_pack_Take (b : List UInt8) (hb : b.length≤100000) : call F 21 [.sl .shared 1 (rowsBy cByte b)]=some (takeDT b):=by
  have hR : RdAt (upd (upd (upd h0 5 (some (dV [] []))) 4 (some (rdV b false))) 2 (some zV)) 1000000 4 b false :=
    ⟨(((LowH.h0 _).upd (by decide) (dV_mask (by decide))).upd (by decide) rdV_mask).upd (by decide) zV_mask,by decide,rfl⟩
  have y1:=byte_i 1000000 (by decide) hR
  have n1:=nextR_le b false
  unfold takeDT
  rw [takeD_run]
  unfold runD
  generalize nextR b false=p1 at *
  obtain ⟨n,b1,bad1⟩:=p1
  simp only at y1 n1 ⊢
  have l1:=take_el b n b1 bad1 [] (by omega) (by simp; omega)
  have n2:=runE_le n b1 bad1
  generalize runE n b1 bad1=p2 at *
  obtain ⟨es,b2,bad2⟩:=p2
  simp only [List.nil_append] at l1 n2 ⊢
  have hR2 : RdAt (upd (upd (upd (eH es h0) 5 (some (dV [] es))) 4 (some (rdV b2 bad2))) 2 (some zV)) 3000000 4 b2 bad2 :=
    ⟨(((eH_low (LowH.h0 _) (by decide)).upd (by decide) (dV_mask (by decide))).upd (by decide) rdV_mask).upd (by decide) zV_mask,by decide,rfl⟩
  have y2:=byte_i 3000000 (by decide) hR2
  have n3:=nextR_le b2 bad2
  generalize nextR b2 bad2=p3 at *
  obtain ⟨m,b3,bad3⟩:=p3
  simp only at y2 n3 ⊢
  have l2:=take_vl b es m b3 bad3 [] (by omega) (by simp; omega)
  have n4:=runV_ring es m b3 bad3
  generalize runV es m b3 bad3=p4 at *
  cases p4 with
  | none =>
    simp only [Option.map_none] at l2 ⊢
    simp only [t1S,t1E,t2S,t2E,tRet,eH,eC,vC,vH,dV,zV,rdV] at l1 l2 y1 y2
    rw [call_code F (show F 21=some (.code f21) from rfl)]
    cases es with
    | nil =>
      simp only [t1S,t1E,t2S,t2E,tRet,eH,eC,vC,vH,dV,zV,rdV] at l1 l2 y1 y2
      simp only [f21,l1,l2,y1,y2,Nat.reduceLT,renP,decide_true,decide_false,go_sem,seval]
    | cons e es =>
      simp only [t1S,t1E,t2S,t2E,tRet,eH,eC,vC,vH,dV,zV,rdV] at l1 l2 y1 y2
      generalize e :: es=L1 at *
      simp only [f21,l1,l2,y1,y2,Nat.reduceLT,renP,decide_true,decide_false,go_sem,seval]
  | some p =>
    obtain ⟨l,r,bad⟩:=p
    have cP:=i_pack_PutF l es (fun v hv => Fits.of (by have:=n4 l r bad rfl v hv; omega))
    have cQ:=fun fa => i_bytes_Equal fa .shared (putD l es) b
    simp only [Option.map_some,List.nil_append] at l2 ⊢
    rw [call_code F (show F 21=some (.code f21) from rfl)]
    by_cases hm : mayC l es=0
    · rw [if_pos hm] at cP
      cases bad with
      | true =>
        simp only
        cases es with
        | nil =>
          cases l with
          | nil =>
            simp only [t1S,t1E,t2S,t2E,tRet,eH,eC,vC,vH,dV,zV,rdV] at l1 l2 y1 y2
            simp only [rowsBy_nil] at cP
            simp only [f21,l1,l2,y1,y2,cP,cQ,hm,rowsBy_length,rowsBy_takeAll,Nat.reduceLT,renP,renS,decide_true,decide_false,Bool.not_true,Bool.not_false,go_sem,seval]
          | cons v l =>
            simp only [t1S,t1E,t2S,t2E,tRet,eH,eC,vC,vH,dV,zV,rdV] at l1 l2 y1 y2
            simp only [rowsBy_nil] at cP
            generalize v :: l=V1 at *
            simp only [f21,l1,l2,y1,y2,cP,cQ,hm,rowsBy_length,rowsBy_takeAll,Nat.reduceLT,renP,renS,decide_true,decide_false,Bool.not_true,Bool.not_false,go_sem,seval]
        | cons e es =>
          cases l with
          | nil =>
            simp only [t1S,t1E,t2S,t2E,tRet,eH,eC,vC,vH,dV,zV,rdV] at l1 l2 y1 y2
            simp only [rowsBy_nil] at cP
            generalize e :: es=L1 at *
            simp only [f21,l1,l2,y1,y2,cP,cQ,hm,rowsBy_length,rowsBy_takeAll,Nat.reduceLT,renP,renS,decide_true,decide_false,Bool.not_true,Bool.not_false,go_sem,seval]
          | cons v l =>
            simp only [t1S,t1E,t2S,t2E,tRet,eH,eC,vC,vH,dV,zV,rdV] at l1 l2 y1 y2
            generalize e :: es=L1 at *
            generalize v :: l=V1 at *
            simp only [f21,l1,l2,y1,y2,cP,cQ,hm,rowsBy_length,rowsBy_takeAll,Nat.reduceLT,renP,renS,decide_true,decide_false,Bool.not_true,Bool.not_false,go_sem,seval]
      | false =>
        simp only
        by_cases hq : putD l es=b
        · rw [if_pos ⟨hm, hq⟩]
          have cQ2 : ∀ fa,call F 33 [.sl fa 1 (rowsBy cByte b),.sl .shared 1 (rowsBy cByte b)]=some (.bool true):=fun fa => by rw [i_bytes_Equal]; simp
          cases es with
          | nil =>
            cases l with
            | nil =>
              simp only [t1S,t1E,t2S,t2E,tRet,eH,eC,vC,vH,dV,zV,rdV] at l1 l2 y1 y2
              simp only [oV,oE,rowsBy_nil]
              simp only [rowsBy_nil] at cP
              simp only [f21,l1,l2,y1,y2,cP,cQ,cQ2,hm,rowsBy_length,rowsBy_takeAll,hq,Nat.reduceLT,renP,renS,decide_true,decide_false,Bool.not_true,Bool.not_false,go_sem,seval]
            | cons v l =>
              simp only [t1S,t1E,t2S,t2E,tRet,eH,eC,vC,vH,dV,zV,rdV] at l1 l2 y1 y2
              simp only [oV,oE,rowsBy_nil]
              simp only [rowsBy_nil] at cP
              generalize v :: l=V1 at *
              simp only [f21,l1,l2,y1,y2,cP,cQ,cQ2,hm,rowsBy_length,rowsBy_takeAll,hq,Nat.reduceLT,renP,renS,decide_true,decide_false,Bool.not_true,Bool.not_false,go_sem,seval]
          | cons e es =>
            cases l with
            | nil =>
              simp only [t1S,t1E,t2S,t2E,tRet,eH,eC,vC,vH,dV,zV,rdV] at l1 l2 y1 y2
              simp only [oV,oE,rowsBy_nil]
              simp only [rowsBy_nil] at cP
              generalize e :: es=L1 at *
              simp only [f21,l1,l2,y1,y2,cP,cQ,cQ2,hm,rowsBy_length,rowsBy_takeAll,hq,Nat.reduceLT,renP,renS,decide_true,decide_false,Bool.not_true,Bool.not_false,go_sem,seval]
            | cons v l =>
              simp only [t1S,t1E,t2S,t2E,tRet,eH,eC,vC,vH,dV,zV,rdV] at l1 l2 y1 y2
              simp only [oV,oE,rowsBy_nil]
              generalize e :: es=L1 at *
              generalize v :: l=V1 at *
              simp only [f21,l1,l2,y1,y2,cP,cQ,cQ2,hm,rowsBy_length,rowsBy_takeAll,hq,Nat.reduceLT,renP,renS,decide_true,decide_false,Bool.not_true,Bool.not_false,go_sem,seval]
        · rw [if_neg (fun h => hq h.2)]
          cases es with
          | nil =>
            cases l with
            | nil =>
              simp only [t1S,t1E,t2S,t2E,tRet,eH,eC,vC,vH,dV,zV,rdV] at l1 l2 y1 y2
              simp only [rowsBy_nil] at cP
              simp only [f21,l1,l2,y1,y2,cP,cQ,hm,rowsBy_length,rowsBy_takeAll,hq,Nat.reduceLT,renP,renS,decide_true,decide_false,Bool.not_true,Bool.not_false,go_sem,seval]
            | cons v l =>
              simp only [t1S,t1E,t2S,t2E,tRet,eH,eC,vC,vH,dV,zV,rdV] at l1 l2 y1 y2
              simp only [rowsBy_nil] at cP
              generalize v :: l=V1 at *
              simp only [f21,l1,l2,y1,y2,cP,cQ,hm,rowsBy_length,rowsBy_takeAll,hq,Nat.reduceLT,renP,renS,decide_true,decide_false,Bool.not_true,Bool.not_false,go_sem,seval]
          | cons e es =>
            cases l with
            | nil =>
              simp only [t1S,t1E,t2S,t2E,tRet,eH,eC,vC,vH,dV,zV,rdV] at l1 l2 y1 y2
              simp only [rowsBy_nil] at cP
              generalize e :: es=L1 at *
              simp only [f21,l1,l2,y1,y2,cP,cQ,hm,rowsBy_length,rowsBy_takeAll,hq,Nat.reduceLT,renP,renS,decide_true,decide_false,Bool.not_true,Bool.not_false,go_sem,seval]
            | cons v l =>
              simp only [t1S,t1E,t2S,t2E,tRet,eH,eC,vC,vH,dV,zV,rdV] at l1 l2 y1 y2
              generalize e :: es=L1 at *
              generalize v :: l=V1 at *
              simp only [f21,l1,l2,y1,y2,cP,cQ,hm,rowsBy_length,rowsBy_takeAll,hq,Nat.reduceLT,renP,renS,decide_true,decide_false,Bool.not_true,Bool.not_false,go_sem,seval]
    · rw [if_neg hm] at cP
      cases bad with
      | true =>
        simp only
        cases es with
        | nil =>
          cases l with
          | nil =>
            simp only [t1S,t1E,t2S,t2E,tRet,eH,eC,vC,vH,dV,zV,rdV] at l1 l2 y1 y2
            simp only [rowsBy_nil] at cP
            simp only [f21,l1,l2,y1,y2,cP,cQ,hm,rowsBy_length,rowsBy_takeAll,Nat.reduceLT,renP,renS,decide_true,decide_false,Bool.not_true,Bool.not_false,go_sem,seval]
          | cons v l =>
            simp only [t1S,t1E,t2S,t2E,tRet,eH,eC,vC,vH,dV,zV,rdV] at l1 l2 y1 y2
            simp only [rowsBy_nil] at cP
            generalize v :: l=V1 at *
            simp only [f21,l1,l2,y1,y2,cP,cQ,hm,rowsBy_length,rowsBy_takeAll,Nat.reduceLT,renP,renS,decide_true,decide_false,Bool.not_true,Bool.not_false,go_sem,seval]
        | cons e es =>
          cases l with
          | nil =>
            simp only [t1S,t1E,t2S,t2E,tRet,eH,eC,vC,vH,dV,zV,rdV] at l1 l2 y1 y2
            simp only [rowsBy_nil] at cP
            generalize e :: es=L1 at *
            simp only [f21,l1,l2,y1,y2,cP,cQ,hm,rowsBy_length,rowsBy_takeAll,Nat.reduceLT,renP,renS,decide_true,decide_false,Bool.not_true,Bool.not_false,go_sem,seval]
          | cons v l =>
            simp only [t1S,t1E,t2S,t2E,tRet,eH,eC,vC,vH,dV,zV,rdV] at l1 l2 y1 y2
            generalize e :: es=L1 at *
            generalize v :: l=V1 at *
            simp only [f21,l1,l2,y1,y2,cP,cQ,hm,rowsBy_length,rowsBy_takeAll,Nat.reduceLT,renP,renS,decide_true,decide_false,Bool.not_true,Bool.not_false,go_sem,seval]
      | false =>
        simp only
        rw [if_neg (fun h => hm h.1)]
        cases es with
        | nil =>
          cases l with
          | nil =>
            simp only [t1S,t1E,t2S,t2E,tRet,eH,eC,vC,vH,dV,zV,rdV] at l1 l2 y1 y2
            simp only [rowsBy_nil] at cP
            simp only [f21,l1,l2,y1,y2,cP,cQ,hm,rowsBy_length,rowsBy_takeAll,Nat.reduceLT,renP,renS,decide_true,decide_false,Bool.not_true,Bool.not_false,go_sem,seval]
          | cons v l =>
            simp only [t1S,t1E,t2S,t2E,tRet,eH,eC,vC,vH,dV,zV,rdV] at l1 l2 y1 y2
            simp only [rowsBy_nil] at cP
            generalize v :: l=V1 at *
            simp only [f21,l1,l2,y1,y2,cP,cQ,hm,rowsBy_length,rowsBy_takeAll,Nat.reduceLT,renP,renS,decide_true,decide_false,Bool.not_true,Bool.not_false,go_sem,seval]
        | cons e es =>
          cases l with
          | nil =>
            simp only [t1S,t1E,t2S,t2E,tRet,eH,eC,vC,vH,dV,zV,rdV] at l1 l2 y1 y2
            simp only [rowsBy_nil] at cP
            generalize e :: es=L1 at *
            simp only [f21,l1,l2,y1,y2,cP,cQ,hm,rowsBy_length,rowsBy_takeAll,Nat.reduceLT,renP,renS,decide_true,decide_false,Bool.not_true,Bool.not_false,go_sem,seval]
          | cons v l =>
            simp only [t1S,t1E,t2S,t2E,tRet,eH,eC,vC,vH,dV,zV,rdV] at l1 l2 y1 y2
            generalize e :: es=L1 at *
            generalize v :: l=V1 at *
            simp only [f21,l1,l2,y1,y2,cP,cQ,hm,rowsBy_length,rowsBy_takeAll,Nat.reduceLT,renP,renS,decide_true,decide_false,Bool.not_true,Bool.not_false,go_sem,seval]
end Go.Proofs.Ytcecojdeljbjoaa.Sx
namespace Go.Proofs.Ytcecojdeljbjoaa.Sx
open Go
end Go.Proofs.Ytcecojdeljbjoaa.Sx
namespace Go.Proofs.Ytcecojdeljbjoaa.Sx
open Go
theorem none_wf : WF [] []:=wf_of (by decide) (by decide) (by decide +kernel) (by decide +kernel) (by decide +kernel)
theorem none_gen : gN [] []=0:=by
  have h:=none_wf.gen
  have h2:=none_wf.small
  rw [show fN [] []=0 by decide +kernel] at h
  simp only [List.length_nil] at h h2
  omega
theorem none_may : mayC [] []=0:=by
  unfold mayC
  rw [if_pos (formC_ok.2 ⟨none_wf,rfl,rfl⟩),if_pos none_gen]
theorem i_Put_none : call F 10 [.agg [.sl .shared 5 [],.sl .shared 4 []]]=some (.tup [.sl (.own 5) 1 [[.int .u8 0],[.int .u8 0]],.int .i64 0]):=by
  have c1:=i_euler_May [] [] (fun v hv => by cases hv)
  rw [none_may] at c1
  simp only [rowsBy_nil] at c1
  have w0 : IntKind.u8.wrap 0=0:=rfl
  rw [call_code F (show F 10=some (.code f10) from rfl)]
  simp only [f10,c1,go_sem,seval]
  rw [f10_l1_eq]
  simp only [f10_b1,go_sem,seval]
  rw [f10_l2_eq]
  simp only [f10_b2,w0,go_sem,seval]
theorem c_shown : call F 9 []=some (.bool true):=by
  have c1:=i_Put_none
  have c2:=i_pack_Num [] (by simp) (.tight 5) 1
  rw [List.nil_append,rowsBy_nil] at c2
  have hl : (rowsBy cByte (numB 1)).length=8:=by rw [rowsBy_length]; rfl
  rw [call_code F (show F 9=some (.code f9) from rfl)]
  have hb : ([UInt8.ofNat 0,UInt8.ofNat 0] == [0,0])=true:=rfl
  simp only [f9,c1,c2,hl,hb,go_sem,seval]

end Go.Proofs.Ytcecojdeljbjoaa.Sx
namespace Go.Proofs.Ytcecojdeljbjoaa.Sx
open Go
def fewVx (n k : Nat) (l : List Vx) : List Vx:=(l.take n).map fun v => ⟨v.id,v.ring.take k,v.label,v.attr⟩
theorem fewVx_len (n k : Nat) (l : List Vx) : (fewVx n k l).length≤n:=by unfold fewVx; rw [List.length_map,List.length_take]; omega
theorem fewVx_ring (n k : Nat) (l : List Vx) : ∀ v∈fewVx n k l,v.ring.length≤k:=by
  intro v hv
  unfold fewVx at hv
  obtain ⟨w,_,rfl⟩:=List.mem_map.1 hv
  show (w.ring.take k).length≤_
  rw [List.length_take]; omega
theorem fewVx_succ {n k : Nat} {l : List Vx} (h : n < l.length) : fewVx (n+1) k l=fewVx n k l++[⟨l[n].id,l[n].ring.take k,l[n].label,l[n].attr⟩]:=by
  unfold fewVx
  rw [List.take_succ_eq_append_getElem h,List.map_append]; rfl
theorem fewVx_min (n k : Nat) (l : List Vx) : fewVx (min l.length n) k l=fewVx n k l:=by
  unfold fewVx
  congr 1
  rcases Nat.le_total l.length n with h | h
  · rw [Nat.min_eq_left h,List.take_of_length_le (Nat.le_refl _),List.take_of_length_le h]
  · rw [Nat.min_eq_right h]
theorem take_min {α : Type} (n : Nat) (l : List α) : l.take (min l.length n)=l.take n:=by
  rcases Nat.le_total l.length n with h | h
  · rw [Nat.min_eq_left h,List.take_of_length_le (Nat.le_refl _),List.take_of_length_le h]
  · rw [Nat.min_eq_right h]
theorem few_l1 (vs : List Vx) (es : List Ed) : E (cs F) 0 f11_l1 (⟨(upd (upd (upd (upd Sx.e0 4 (.v (.int .i64 (0)))) 3 (.p 3 0)) 2 (.p 2 0)) 1 (.p 1 0)),(upd (upd (upd Sx.h0 3 (some (.var false [(.v (.sl (.tight 39) 5 [])),(.v (.sl (.tight 36) 4 []))]))) 2 (some (.var false [(.v (.sl (.tight 39) 5 [])),(.v (.sl (.tight 36) 4 []))]))) 1 (some (.var false [(.v (.sl .shared 5 (rowsBy Vx.c vs))),(.v (.sl .shared 4 (rowsBy Ed.c es)))])))⟩ : St) =
    some (if min vs.length 26=0 then (.exit 0,(⟨(upd (upd (upd Sx.e0 3 (.p 3 0)) 2 (.p 2 0)) 1 (.p 1 0)),(upd (upd (upd Sx.h0 3 (some (.var false [(.v (.sl (.tight 39) 5 [])),(.v (.sl (.tight 36) 4 []))]))) 2 (some (.var false [(.v (.sl (.tight 39) 5 [])),(.v (.sl (.tight 36) 4 []))]))) 1 (some (.var false [(.v (.sl .shared 5 (rowsBy Vx.c vs))),(.v (.sl .shared 4 (rowsBy Ed.c es)))])))⟩ : St)) else (.exit 0,(⟨(upd (upd (upd Sx.e0 3 (.p 3 0)) 2 (.p 2 0)) 1 (.p 1 0)),(upd (upd (upd (upd Sx.h0 10192 (some (.arr false 39 5 (rowsBy Vx.c (fewVx 26 82 vs))))) 3 (some (.var false [(.s 10192 0 (fewVx 26 82 vs).length),(.v (.sl (.tight 36) 4 []))]))) 2 (some (.var false [(.v (.sl (.tight 39) 5 [])),(.v (.sl (.tight 36) 4 []))]))) 1 (some (.var false [(.v (.sl .shared 5 (rowsBy Vx.c vs))),(.v (.sl .shared 4 (rowsBy Ed.c es)))])))⟩ : St))):=by
  rw [← fewVx_min 26 82 vs]
  have l1 : E (cs F) 0 f11_l1 (⟨(upd (upd (upd (upd Sx.e0 4 (.v (.int .i64 (0)))) 3 (.p 3 0)) 2 (.p 2 0)) 1 (.p 1 0)),(upd (upd (upd Sx.h0 3 (some (.var false [(.v (.sl (.tight 39) 5 [])),(.v (.sl (.tight 36) 4 []))]))) 2 (some (.var false [(.v (.sl (.tight 39) 5 [])),(.v (.sl (.tight 36) 4 []))]))) 1 (some (.var false [(.v (.sl .shared 5 (rowsBy Vx.c vs))),(.v (.sl .shared 4 (rowsBy Ed.c es)))])))⟩ : St)=some (if min vs.length 26=0 then (.exit 0,(⟨(upd (upd (upd Sx.e0 3 (.p 3 0)) 2 (.p 2 0)) 1 (.p 1 0)),(upd (upd (upd Sx.h0 3 (some (.var false [(.v (.sl (.tight 39) 5 [])),(.v (.sl (.tight 36) 4 []))]))) 2 (some (.var false [(.v (.sl (.tight 39) 5 [])),(.v (.sl (.tight 36) 4 []))]))) 1 (some (.var false [(.v (.sl .shared 5 (rowsBy Vx.c vs))),(.v (.sl .shared 4 (rowsBy Ed.c es)))])))⟩ : St)) else (.exit 0,(⟨(upd (upd (upd Sx.e0 3 (.p 3 0)) 2 (.p 2 0)) 1 (.p 1 0)),(upd (upd (upd (upd Sx.h0 10192 (some (.arr false 39 5 (rowsBy Vx.c (fewVx (min vs.length 26) 82 vs))))) 3 (some (.var false [(.s 10192 0 (fewVx (min vs.length 26) 82 vs).length),(.v (.sl (.tight 36) 4 []))]))) 2 (some (.var false [(.v (.sl (.tight 39) 5 [])),(.v (.sl (.tight 36) 4 []))]))) 1 (some (.var false [(.v (.sl .shared 5 (rowsBy Vx.c vs))),(.v (.sl .shared 4 (rowsBy Ed.c es)))])))⟩ : St))):=by
    refine loop_grow (b:=f11_b1) _ (fun q0 => (⟨(upd (upd (upd (upd Sx.e0 4 (.v (.int .i64 ((q0 : Int))))) 3 (.p 3 0)) 2 (.p 2 0)) 1 (.p 1 0)),(upd (upd (upd (upd Sx.h0 10192 (some (.arr false 39 5 (rowsBy Vx.c (fewVx q0 82 vs))))) 3 (some (.var false [(.s 10192 0 (fewVx q0 82 vs).length),(.v (.sl (.tight 36) 4 []))]))) 2 (some (.var false [(.v (.sl (.tight 39) 5 [])),(.v (.sl (.tight 36) 4 []))]))) 1 (some (.var false [(.v (.sl .shared 5 (rowsBy Vx.c vs))),(.v (.sl .shared 4 (rowsBy Ed.c es)))])))⟩ : St)) (min vs.length 26) ?_ (by simp) ?_ ?_ ?_ (by simp)
    · intro h0
      have h0' : vs.length=0:=by omega
      simp only [f11_b1,show decide ((0 : Int) < (vs.length : Int))=false from decide_eq_false (by omega),go_sem,seval]
    · intro hn
      have h1 : 0 < vs.length:=by omega
      have hs:=fewVx_succ (n:=0) (k:=82) h1
      have e0 : fewVx 0 82 vs=[]:=rfl
      rw [e0,List.nil_append,Nat.zero_add] at hs
      rw [hs]
      have e2 : rowsBy Vx.c [⟨vs[0].id,vs[0].ring.take 82,vs[0].label,vs[0].attr⟩]=[[.int .i64 vs[0].id.s,.int .i64 vs[0].id.n,.sl .shared 3 (rowsBy Dart.c (vs[0].ring.take 82)),.str vs[0].label,.int .i64 vs[0].attr]]:=rfl
      rw [e2]
      have d1 : decide ((0 : Int) < (vs.length : Int))=true:=decide_eq_true (by omega)
      have h1z : (0 : Int) < (vs.length : Int):=by omega
      by_cases hr : vs[0].ring.length > 82
      · have k1 : decide ((vs[0].ring.length : Int) > 82) = true := decide_eq_true (by omega)
        have k2 : (82 : Int)≤(vs[0].ring.length : Int):=by omega
        simp only [f11_b1,d1,h1z,rowsBy_get Vx.c h1,Vx.c,k1,k2,Int.reduceLT,show IntKind.i64.wrap 1=1 from rfl,go_sem,seval]
      · have k1 : decide ((vs[0].ring.length : Int) > 82) = false := decide_eq_false (by omega)
        rw [List.take_of_length_le (show vs[0].ring.length≤82 by omega)]
        simp only [f11_b1,d1,h1z,rowsBy_get Vx.c h1,Vx.c,k1,Int.reduceLT,show IntKind.i64.wrap 1=1 from rfl,go_sem,seval]
    · intro i hi0 hi
      have h1 : i < vs.length:=by omega
      have h1z : (i : Int) < (vs.length : Int):=by omega
      have h2 : i < 26:=by omega
      have h3 : decide ((i : Int) < 26)=true:=decide_eq_true (by omega)
      have hw : (26 : Nat)≤9223372036854775807:=by decide
      have hs:=fewVx_succ (k:=82) h1
      have hl : (fewVx i 82 vs).length≤i:=fewVx_len i 82 vs
      have h5 : ((fewVx i 82 vs).length+1) * 64≤140737488355328:=by omega
      rw [hs]
      have e2 : (fewVx i 82 vs++([⟨vs[i].id,vs[i].ring.take 82,vs[i].label,vs[i].attr⟩] : List Vx)).length=(fewVx i 82 vs).length+1:=by rw [List.length_append]; rfl
      rw [e2]
      generalize fewVx i 82 vs=m at *
      have e3 : rowsBy Vx.c m++[[.int .i64 vs[i].id.s,.int .i64 vs[i].id.n,.sl .shared 3 (rowsBy Dart.c (vs[i].ring.take 82)),.str vs[i].label,.int .i64 vs[i].attr]]=rowsBy Vx.c (m++[⟨vs[i].id,vs[i].ring.take 82,vs[i].label,vs[i].attr⟩]):=rowsBy_snoc Vx.c m ⟨vs[i].id,vs[i].ring.take 82,vs[i].label,vs[i].attr⟩
      by_cases hr : vs[i].ring.length > 82
      · have k1 : decide ((vs[i].ring.length : Int) > 82) = true := decide_eq_true (by omega)
        have k2 : (82 : Int)≤(vs[i].ring.length : Int):=by omega
        simp only [f11_b1,dec_lt h1,h1z,h3,rowsBy_get Vx.c h1,Vx.c,k1,k2,h5,e3,wrap_succ h2 hw,List.take_length,go_sem,seval]
      · have k1 : decide ((vs[i].ring.length : Int) > 82) = false := decide_eq_false (by omega)
        rw [List.take_of_length_le (show vs[i].ring.length≤82 by omega)] at e3 ⊢
        simp only [f11_b1,dec_lt h1,h1z,h3,rowsBy_get Vx.c h1,Vx.c,k1,h5,e3,wrap_succ h2 hw,List.take_length,go_sem,seval]
    · intro hn
      by_cases h : vs.length≤26
      · rw [Nat.min_eq_left h]
        simp only [f11_b1,dec_ge (Nat.le_refl vs.length),go_sem,seval]
      · rw [Nat.min_eq_right (by omega)]
        simp only [f11_b1,show decide ((26 : Int) < (vs.length : Int))=true from decide_eq_true (by omega),show decide (((26 : Nat) : Int) < 26)=false by decide,go_sem,seval]
  exact l1
theorem few_l2a (vs : List Vx) (es : List Ed) : E (cs F) 0 f11_l2 (⟨(upd (upd (upd (upd Sx.e0 6 (.v (.int .i64 (0)))) 3 (.p 3 0)) 2 (.p 2 0)) 1 (.p 1 0)),(upd (upd (upd Sx.h0 3 (some (.var false [(.v (.sl (.tight 39) 5 [])),(.v (.sl (.tight 36) 4 []))]))) 2 (some (.var false [(.v (.sl (.tight 39) 5 [])),(.v (.sl (.tight 36) 4 []))]))) 1 (some (.var false [(.v (.sl .shared 5 (rowsBy Vx.c vs))),(.v (.sl .shared 4 (rowsBy Ed.c es)))])))⟩ : St) =
    some (if min es.length 42=0 then (.exit 2,(⟨(upd (upd Sx.e0 3 (.p 3 0)) 2 (.p 2 0)),(upd (upd Sx.h0 3 (some (.var false [(.v (.sl (.tight 39) 5 [])),(.v (.sl (.tight 36) 4 []))]))) 2 (some (.var false [(.v (.sl (.tight 39) 5 [])),(.v (.sl (.tight 36) 4 []))])))⟩ : St)) else (.exit 2,(⟨(upd (upd Sx.e0 3 (.p 3 0)) 2 (.p 2 0)),(upd (upd (upd Sx.h0 10193 (some (.arr false 36 4 (rowsBy Ed.c (es.take 42))))) 3 (some (.var false [(.v (.sl (.tight 39) 5 [])),(.s 10193 0 (es.take 42).length)]))) 2 (some (.var false [(.v (.sl (.tight 39) 5 [])),(.v (.sl (.tight 36) 4 []))])))⟩ : St))):=by
  rw [← take_min 42 es]
  have l1 : E (cs F) 0 f11_l2 (⟨(upd (upd (upd (upd Sx.e0 6 (.v (.int .i64 (0)))) 3 (.p 3 0)) 2 (.p 2 0)) 1 (.p 1 0)),(upd (upd (upd Sx.h0 3 (some (.var false [(.v (.sl (.tight 39) 5 [])),(.v (.sl (.tight 36) 4 []))]))) 2 (some (.var false [(.v (.sl (.tight 39) 5 [])),(.v (.sl (.tight 36) 4 []))]))) 1 (some (.var false [(.v (.sl .shared 5 (rowsBy Vx.c vs))),(.v (.sl .shared 4 (rowsBy Ed.c es)))])))⟩ : St)=some (if min es.length 42=0 then (.exit 2,(⟨(upd (upd Sx.e0 3 (.p 3 0)) 2 (.p 2 0)),(upd (upd Sx.h0 3 (some (.var false [(.v (.sl (.tight 39) 5 [])),(.v (.sl (.tight 36) 4 []))]))) 2 (some (.var false [(.v (.sl (.tight 39) 5 [])),(.v (.sl (.tight 36) 4 []))])))⟩ : St)) else (.exit 2,(⟨(upd (upd Sx.e0 3 (.p 3 0)) 2 (.p 2 0)),(upd (upd (upd Sx.h0 10193 (some (.arr false 36 4 (rowsBy Ed.c (es.take (min es.length 42)))))) 3 (some (.var false [(.v (.sl (.tight 39) 5 [])),(.s 10193 0 (es.take (min es.length 42)).length)]))) 2 (some (.var false [(.v (.sl (.tight 39) 5 [])),(.v (.sl (.tight 36) 4 []))])))⟩ : St))):=by
    refine loop_grow (b:=f11_b2) _ (fun q0 => (⟨(upd (upd (upd (upd Sx.e0 6 (.v (.int .i64 ((q0 : Int))))) 3 (.p 3 0)) 2 (.p 2 0)) 1 (.p 1 0)),(upd (upd (upd (upd Sx.h0 10193 (some (.arr false 36 4 (rowsBy Ed.c (es.take q0))))) 3 (some (.var false [(.v (.sl (.tight 39) 5 [])),(.s 10193 0 (es.take q0).length)]))) 2 (some (.var false [(.v (.sl (.tight 39) 5 [])),(.v (.sl (.tight 36) 4 []))]))) 1 (some (.var false [(.v (.sl .shared 5 (rowsBy Vx.c vs))),(.v (.sl .shared 4 (rowsBy Ed.c es)))])))⟩ : St)) (min es.length 42) ?_ (by simp) ?_ ?_ ?_ (by simp)
    · intro h0
      simp only [f11_b2,show decide ((0 : Int) < (es.length : Int))=false from decide_eq_false (by omega),go_sem,seval]
    · intro hn
      have h1 : 0 < es.length:=by omega
      have hs : es.take 1=[es[0]]:=List.take_succ_eq_append_getElem (i:=0) h1
      rw [hs]
      have e2 : rowsBy Ed.c [es[0]]=[[.int .i64 es[0].id.s,.int .i64 es[0].id.n,.str es[0].label,.int .i64 es[0].attr]]:=rfl
      rw [e2]
      have d1 : decide ((0 : Int) < (es.length : Int))=true:=decide_eq_true (by omega)
      have h1z : (0 : Int) < (es.length : Int):=by omega
      simp only [f11_b2,d1,h1z,rowsBy_get Ed.c h1,Ed.c,Int.reduceLT,show IntKind.i64.wrap 1=1 from rfl,go_sem,seval]
    · intro i hi0 hi
      have h1 : i < es.length:=by omega
      have h1z : (i : Int) < (es.length : Int):=by omega
      have h2 : i < 42:=by omega
      have h3 : decide ((i : Int) < 42)=true:=decide_eq_true (by omega)
      have hw : (42 : Nat)≤9223372036854775807:=by decide
      have hs : es.take (i+1)=es.take i++[es[i]]:=List.take_succ_eq_append_getElem h1
      have hl : (es.take i).length≤i:=by rw [List.length_take]; omega
      have h5 : ((es.take i).length+1) * 40≤140737488355328:=by omega
      rw [hs]
      have e2 : (es.take i++[es[i]]).length=(es.take i).length+1:=by rw [List.length_append]; rfl
      rw [e2]
      generalize es.take i=q at *
      have e3 : rowsBy Ed.c q++[[.int .i64 es[i].id.s,.int .i64 es[i].id.n,.str es[i].label,.int .i64 es[i].attr]]=rowsBy Ed.c (q++[es[i]]):=rowsBy_snoc Ed.c q es[i]
      simp only [f11_b2,dec_lt h1,h1z,h3,rowsBy_get Ed.c h1,Ed.c,h5,e3,wrap_succ h2 hw,List.take_length,go_sem,seval]
    · intro hn
      by_cases h : es.length≤42
      · rw [Nat.min_eq_left h]
        simp only [f11_b2,dec_ge (Nat.le_refl es.length),go_sem,seval]
      · rw [Nat.min_eq_right (by omega)]
        simp only [f11_b2,show decide ((42 : Int) < (es.length : Int))=true from decide_eq_true (by omega),show decide (((42 : Nat) : Int) < 42)=false by decide,go_sem,seval]
  exact l1
theorem few_l2b (vs : List Vx) (es : List Ed) (m : List Vx) : E (cs F) 0 f11_l2 (⟨(upd (upd (upd (upd Sx.e0 6 (.v (.int .i64 (0)))) 3 (.p 3 0)) 2 (.p 2 0)) 1 (.p 1 0)),(upd (upd (upd (upd Sx.h0 10192 (some (.arr false 39 5 (rowsBy Vx.c m)))) 3 (some (.var false [(.s 10192 0 m.length),(.v (.sl (.tight 36) 4 []))]))) 2 (some (.var false [(.v (.sl (.tight 39) 5 [])),(.v (.sl (.tight 36) 4 []))]))) 1 (some (.var false [(.v (.sl .shared 5 (rowsBy Vx.c vs))),(.v (.sl .shared 4 (rowsBy Ed.c es)))])))⟩ : St) =
    some (if min es.length 42=0 then (.exit 2,(⟨(upd (upd Sx.e0 3 (.p 3 0)) 2 (.p 2 0)),(upd (upd (upd Sx.h0 10192 (some (.arr false 39 5 (rowsBy Vx.c m)))) 3 (some (.var false [(.s 10192 0 m.length),(.v (.sl (.tight 36) 4 []))]))) 2 (some (.var false [(.v (.sl (.tight 39) 5 [])),(.v (.sl (.tight 36) 4 []))])))⟩ : St)) else (.exit 2,(⟨(upd (upd Sx.e0 3 (.p 3 0)) 2 (.p 2 0)),(upd (upd (upd (upd Sx.h0 10193 (some (.arr false 36 4 (rowsBy Ed.c (es.take 42))))) 10192 (some (.arr false 39 5 (rowsBy Vx.c m)))) 3 (some (.var false [(.s 10192 0 m.length),(.s 10193 0 (es.take 42).length)]))) 2 (some (.var false [(.v (.sl (.tight 39) 5 [])),(.v (.sl (.tight 36) 4 []))])))⟩ : St))):=by
  rw [← take_min 42 es]
  have l1 : E (cs F) 0 f11_l2 (⟨(upd (upd (upd (upd Sx.e0 6 (.v (.int .i64 (0)))) 3 (.p 3 0)) 2 (.p 2 0)) 1 (.p 1 0)),(upd (upd (upd (upd Sx.h0 10192 (some (.arr false 39 5 (rowsBy Vx.c m)))) 3 (some (.var false [(.s 10192 0 m.length),(.v (.sl (.tight 36) 4 []))]))) 2 (some (.var false [(.v (.sl (.tight 39) 5 [])),(.v (.sl (.tight 36) 4 []))]))) 1 (some (.var false [(.v (.sl .shared 5 (rowsBy Vx.c vs))),(.v (.sl .shared 4 (rowsBy Ed.c es)))])))⟩ : St)=some (if min es.length 42=0 then (.exit 2,(⟨(upd (upd Sx.e0 3 (.p 3 0)) 2 (.p 2 0)),(upd (upd (upd Sx.h0 10192 (some (.arr false 39 5 (rowsBy Vx.c m)))) 3 (some (.var false [(.s 10192 0 m.length),(.v (.sl (.tight 36) 4 []))]))) 2 (some (.var false [(.v (.sl (.tight 39) 5 [])),(.v (.sl (.tight 36) 4 []))])))⟩ : St)) else (.exit 2,(⟨(upd (upd Sx.e0 3 (.p 3 0)) 2 (.p 2 0)),(upd (upd (upd (upd Sx.h0 10193 (some (.arr false 36 4 (rowsBy Ed.c (es.take (min es.length 42)))))) 10192 (some (.arr false 39 5 (rowsBy Vx.c m)))) 3 (some (.var false [(.s 10192 0 m.length),(.s 10193 0 (es.take (min es.length 42)).length)]))) 2 (some (.var false [(.v (.sl (.tight 39) 5 [])),(.v (.sl (.tight 36) 4 []))])))⟩ : St))):=by
    refine loop_grow (b:=f11_b2) _ (fun q0 => (⟨(upd (upd (upd (upd Sx.e0 6 (.v (.int .i64 ((q0 : Int))))) 3 (.p 3 0)) 2 (.p 2 0)) 1 (.p 1 0)),(upd (upd (upd (upd (upd Sx.h0 10193 (some (.arr false 36 4 (rowsBy Ed.c (es.take q0))))) 10192 (some (.arr false 39 5 (rowsBy Vx.c m)))) 3 (some (.var false [(.s 10192 0 m.length),(.s 10193 0 (es.take q0).length)]))) 2 (some (.var false [(.v (.sl (.tight 39) 5 [])),(.v (.sl (.tight 36) 4 []))]))) 1 (some (.var false [(.v (.sl .shared 5 (rowsBy Vx.c vs))),(.v (.sl .shared 4 (rowsBy Ed.c es)))])))⟩ : St)) (min es.length 42) ?_ (by simp) ?_ ?_ ?_ (by simp)
    · intro h0
      simp only [f11_b2,show decide ((0 : Int) < (es.length : Int))=false from decide_eq_false (by omega),go_sem,seval]
    · intro hn
      have h1 : 0 < es.length:=by omega
      have hs : es.take 1=[es[0]]:=List.take_succ_eq_append_getElem (i:=0) h1
      rw [hs]
      have e2 : rowsBy Ed.c [es[0]]=[[.int .i64 es[0].id.s,.int .i64 es[0].id.n,.str es[0].label,.int .i64 es[0].attr]]:=rfl
      rw [e2]
      have d1 : decide ((0 : Int) < (es.length : Int))=true:=decide_eq_true (by omega)
      have h1z : (0 : Int) < (es.length : Int):=by omega
      simp only [f11_b2,d1,h1z,rowsBy_get Ed.c h1,Ed.c,Int.reduceLT,show IntKind.i64.wrap 1=1 from rfl,go_sem,seval]
    · intro i hi0 hi
      have h1 : i < es.length:=by omega
      have h1z : (i : Int) < (es.length : Int):=by omega
      have h2 : i < 42:=by omega
      have h3 : decide ((i : Int) < 42)=true:=decide_eq_true (by omega)
      have hw : (42 : Nat)≤9223372036854775807:=by decide
      have hs : es.take (i+1)=es.take i++[es[i]]:=List.take_succ_eq_append_getElem h1
      have hl : (es.take i).length≤i:=by rw [List.length_take]; omega
      have h5 : ((es.take i).length+1) * 40≤140737488355328:=by omega
      rw [hs]
      have e2 : (es.take i++[es[i]]).length=(es.take i).length+1:=by rw [List.length_append]; rfl
      rw [e2]
      generalize es.take i=q at *
      have e3 : rowsBy Ed.c q++[[.int .i64 es[i].id.s,.int .i64 es[i].id.n,.str es[i].label,.int .i64 es[i].attr]]=rowsBy Ed.c (q++[es[i]]):=rowsBy_snoc Ed.c q es[i]
      simp only [f11_b2,dec_lt h1,h1z,h3,rowsBy_get Ed.c h1,Ed.c,h5,e3,wrap_succ h2 hw,List.take_length,go_sem,seval]
    · intro hn
      by_cases h : es.length≤42
      · rw [Nat.min_eq_left h]
        simp only [f11_b2,dec_ge (Nat.le_refl es.length),go_sem,seval]
      · rw [Nat.min_eq_right (by omega)]
        simp only [f11_b2,show decide ((42 : Int) < (es.length : Int))=true from decide_eq_true (by omega),show decide (((42 : Nat) : Int) < 42)=false by decide,go_sem,seval]
  exact l1
theorem c_few (vs : List Vx) (es : List Ed) : call F 11 [.agg [.sl .shared 5 (rowsBy Vx.c vs),.sl .shared 4 (rowsBy Ed.c es)]]=some (.agg [.sl (.own 39) 5 (rowsBy Vx.c (fewVx 26 82 vs)),.sl (.own 36) 4 (rowsBy Ed.c (es.take 42))]):=by
  have l1:=few_l1 vs es
  have ze : min es.length 42=0→es.take 42=[]:=fun h => List.eq_nil_of_length_eq_zero (by rw [List.length_take]; omega)
  have zv : min vs.length 26=0→fewVx 26 82 vs=[]:=fun h => List.eq_nil_of_length_eq_zero (by unfold fewVx; rw [List.length_map,List.length_take]; omega)
  by_cases h1 : min vs.length 26=0
  · rw [if_pos h1] at l1
    have l2:=few_l2a vs es
    rw [zv h1]
    by_cases h2 : min es.length 42=0
    · rw [if_pos h2] at l2
      rw [ze h2]
      rw [call_code F (show F 11=some (.code f11) from rfl)]
      simp only [f11,l1,l2,rowsBy_nil,go_sem,seval]
    · rw [if_neg h2] at l2
      generalize es.take 42=q at *
      rw [call_code F (show F 11=some (.code f11) from rfl)]
      simp only [f11,l1,l2,rowsBy_nil,List.take_length,go_sem,seval]
  · rw [if_neg h1] at l1
    have l2:=few_l2b vs es (fewVx 26 82 vs)
    generalize fewVx 26 82 vs=m at *
    by_cases h2 : min es.length 42=0
    · rw [if_pos h2] at l2
      rw [ze h2]
      rw [call_code F (show F 11=some (.code f11) from rfl)]
      simp only [f11,l1,l2,rowsBy_nil,List.take_length,go_sem,seval]
    · rw [if_neg h2] at l2
      generalize es.take 42=q at *
      rw [call_code F (show F 11=some (.code f11) from rfl)]
      simp only [f11,l1,l2,rowsBy_nil,List.take_length,go_sem,seval]
end Go.Proofs.Ytcecojdeljbjoaa.Sx
namespace Go.Proofs.Ytcecojdeljbjoaa.Sx
open Go
end Go.Proofs.Ytcecojdeljbjoaa.Sx
namespace Go.Proofs.Ytcecojdeljbjoaa.Sx
open Go
theorem Vx.ext_iff' (x y : Vx) : x=y↔x.id=y.id∧x.label=y.label∧x.attr=y.attr∧x.ring=y.ring:=by
  cases x; cases y; simp only [Vx.mk.injEq]
  constructor
  · rintro ⟨a,b,c,d⟩; exact ⟨a,c,d,b⟩
  · rintro ⟨a,b,c,d⟩; exact ⟨a,d,b,c⟩
theorem Ed.ext_iff' (x y : Ed) : x=y↔x.id=y.id∧x.label=y.label∧x.attr=y.attr:=by
  cases x; cases y; simp only [Ed.mk.injEq]
theorem Ed.dec (x y : Ed) : (decide (x.id.s=y.id.s) && (decide (x.id.n=y.id.n) && (decide (x.label=y.label) && decide (x.attr=y.attr))))=decide (x=y):=by
  by_cases h : x=y
  · subst h; simp
  · rw [decide_eq_false h]
    simp only [Bool.and_eq_false_iff,decide_eq_false_iff_not]
    rw [Ed.ext_iff',ID.ext_iff'] at h
    by_cases h1 : x.id.s=y.id.s
    · by_cases h2 : x.id.n = y.id.n
      · by_cases h3 : x.label = y.label
        · exact .inr (.inr (.inr fun h4 => h ⟨⟨h1,h2⟩,h3,h4⟩))
        · exact .inr (.inr (.inl h3))
      · exact .inr (.inl h2)
    · exact .inl h1
theorem i_r04_Same (l m : List Vx) (e f : List Ed) (hl : Fits l) (hr : FitsR l) (he : Fits e) : call F 22 [.agg [.sl .shared 5 (rowsBy Vx.c l),.sl .shared 4 (rowsBy Ed.c e)],.agg [.sl .shared 5 (rowsBy Vx.c m),.sl .shared 4 (rowsBy Ed.c f)]]=some (.bool (decide (l=m) && decide (e=f))):=by
  have hl:=hl.le
  have he:=he.le
  by_cases hlen : l.length=m.length
  · have k1 := len_eq hlen
    by_cases hlen2 : e.length=f.length
    · have k2 := len_eq hlen2
      have l1 : E (cs F) 0 f22_l1 (⟨(upd (upd (upd Sx.e0 5 (.v (.int .i64 (0)))) 3 (.p 3 0)) 2 (.p 2 0)),(upd (upd Sx.h0 3 (some (.var false [(.v (.sl .shared 5 (rowsBy Vx.c m))),(.v (.sl .shared 4 (rowsBy Ed.c f)))]))) 2 (some (.var false [(.v (.sl .shared 5 (rowsBy Vx.c l))),(.v (.sl .shared 4 (rowsBy Ed.c e)))])))⟩ : St)=some (if (List.range (l.length)).any (pairB (fun x y => decide (x=y)) l m) then (.ret,(⟨(upd Sx.e0 4 (.v (.bool false))),Sx.h0⟩ : St)) else (.exit 0,(⟨(upd (upd Sx.e0 3 (.p 3 0)) 2 (.p 2 0)),(upd (upd Sx.h0 3 (some (.var false [(.v (.sl .shared 5 (rowsBy Vx.c m))),(.v (.sl .shared 4 (rowsBy Ed.c f)))]))) 2 (some (.var false [(.v (.sl .shared 5 (rowsBy Vx.c l))),(.v (.sl .shared 4 (rowsBy Ed.c e)))])))⟩ : St))):=by
        refine loop_any (b:=f22_b1) (fun q0 => (⟨(upd (upd (upd Sx.e0 5 (.v (.int .i64 ((q0 : Int))))) 3 (.p 3 0)) 2 (.p 2 0)),(upd (upd Sx.h0 3 (some (.var false [(.v (.sl .shared 5 (rowsBy Vx.c m))),(.v (.sl .shared 4 (rowsBy Ed.c f)))]))) 2 (some (.var false [(.v (.sl .shared 5 (rowsBy Vx.c l))),(.v (.sl .shared 4 (rowsBy Ed.c e)))])))⟩ : St)) (pairB (fun x y => decide (x=y)) l m) (l.length) ?_ ?_ (by simp) ?_ (by simp)
        · intro i h1 hp
          have h2 : i < m.length:=by omega
          rw [pairB_at h1 h2] at hp
          have hd : l[i]=m[i]:=by simpa using hp
          obtain ⟨q1,q2,q3,q4⟩:=(Vx.ext_iff' _ _).1 hd
          have hs:=c_r03_Darts l[i].ring m[i].ring (hr _ (List.getElem_mem h1))
          rw [dec_t q4] at hs
          have h1z : (i : Int) < (l.length : Int):=by omega
          have h2z : (i : Int) < (m.length : Int):=by omega
          simp only [f22_b1,dec_lt h1,h1z,h2z,rowsBy_get Vx.c h1,rowsBy_get Vx.c h2,Vx.c,hs,str_beq,dec_t q1,dec_t q2,dec_f (show ¬ ¬ l[i].attr=m[i].attr from fun h => h q3),wrap_succ h1 (show l.length≤9223372036854775807 by omega),go_sem,seval]
        · intro i h1 hp
          have h2 : i < m.length:=by omega
          rw [pairB_at h1 h2] at hp
          have hd : ¬ l[i]=m[i]:=by simpa using hp
          have hs:=c_r03_Darts l[i].ring m[i].ring (hr _ (List.getElem_mem h1))
          have h1z : (i : Int) < (l.length : Int):=by omega
          have h2z : (i : Int) < (m.length : Int):=by omega
          by_cases q1 : l[i].id=m[i].id
          · by_cases q2 : l[i].label = m[i].label
            · by_cases q3 : l[i].attr = m[i].attr
              · have q4 : ¬ l[i].ring = m[i].ring := fun q4 => hd ((Vx.ext_iff' _ _).2 ⟨q1, q2, q3, q4⟩)
                rw [dec_f q4] at hs
                simp only [f22_b1,dec_lt h1,h1z,h2z,rowsBy_get Vx.c h1,rowsBy_get Vx.c h2,Vx.c,hs,str_beq,dec_t q1,dec_t q2,dec_f (show ¬ ¬ l[i].attr=m[i].attr from fun h => h q3),go_sem,seval]
              · simp only [f22_b1,dec_lt h1,h1z,h2z,rowsBy_get Vx.c h1,rowsBy_get Vx.c h2,Vx.c,hs,str_beq,dec_t q1,dec_t q2,dec_t q3,go_sem,seval]
            · simp only [f22_b1,dec_lt h1,h1z,h2z,rowsBy_get Vx.c h1,rowsBy_get Vx.c h2,Vx.c,hs,str_beq,dec_t q1,dec_f q2,go_sem,seval]
          · simp only [f22_b1,dec_lt h1,h1z,h2z,rowsBy_get Vx.c h1,rowsBy_get Vx.c h2,Vx.c,hs,str_beq,dec_f q1,go_sem,seval]
        · simp only [f22_b1,dec_ge (Nat.le_refl l.length),go_sem,seval]
      have l2 : E (cs F) 0 f22_l2 (⟨(upd (upd (upd Sx.e0 9 (.v (.int .i64 (0)))) 3 (.p 3 0)) 2 (.p 2 0)),(upd (upd Sx.h0 3 (some (.var false [(.v (.sl .shared 5 (rowsBy Vx.c m))),(.v (.sl .shared 4 (rowsBy Ed.c f)))]))) 2 (some (.var false [(.v (.sl .shared 5 (rowsBy Vx.c l))),(.v (.sl .shared 4 (rowsBy Ed.c e)))])))⟩ : St)=some (if (List.range (e.length)).any (pairB (fun x y => decide (x=y)) e f) then (.ret,(⟨(upd Sx.e0 4 (.v (.bool false))),Sx.h0⟩ : St)) else (.exit 2,(⟨Sx.e0,Sx.h0⟩ : St))):=by
        refine loop_any (b:=f22_b2) (fun q0 => (⟨(upd (upd (upd Sx.e0 9 (.v (.int .i64 ((q0 : Int))))) 3 (.p 3 0)) 2 (.p 2 0)),(upd (upd Sx.h0 3 (some (.var false [(.v (.sl .shared 5 (rowsBy Vx.c m))),(.v (.sl .shared 4 (rowsBy Ed.c f)))]))) 2 (some (.var false [(.v (.sl .shared 5 (rowsBy Vx.c l))),(.v (.sl .shared 4 (rowsBy Ed.c e)))])))⟩ : St)) (pairB (fun x y => decide (x=y)) e f) (e.length) ?_ ?_ (by simp) ?_ (by simp)
        · intro i h1 hp
          have h2 : i < f.length:=by omega
          rw [pairB_at h1 h2] at hp
          have hd : decide (e[i]=f[i])=true:=by simpa using hp
          have h1z : (i : Int) < (e.length : Int):=by omega
          have h2z : (i : Int) < (f.length : Int):=by omega
          simp only [f22_b2,dec_lt h1,h1z,h2z,rowsBy_get Ed.c h1,rowsBy_get Ed.c h2,Ed.c,str_beq,Ed.dec,hd,wrap_succ h1 (show e.length≤9223372036854775807 by omega),go_sem,seval]
        · intro i h1 hp
          have h2 : i < f.length:=by omega
          rw [pairB_at h1 h2] at hp
          have hd : decide (e[i]=f[i])=false:=by simpa using hp
          have h1z : (i : Int) < (e.length : Int):=by omega
          have h2z : (i : Int) < (f.length : Int):=by omega
          simp only [f22_b2,dec_lt h1,h1z,h2z,rowsBy_get Ed.c h1,rowsBy_get Ed.c h2,Ed.c,str_beq,Ed.dec,hd,go_sem,seval]
        · simp only [f22_b2,dec_ge (Nat.le_refl e.length),go_sem,seval]
      rw [pairB_eq (fun _ _ => rfl) hlen] at l1
      rw [pairB_eq (fun _ _ => rfl) hlen2] at l2
      generalize decide (l=m)=a at *
      generalize decide (e=f)=b at *
      rw [call_code F (show F 22=some (.code f22) from rfl)]
      cases a
      · simp only [f22,k1,k2,l1,Bool.not_true,Bool.not_false,Bool.false_and,go_sem,seval]
      · cases b
        · simp only [f22,k1,k2,l1,l2,Bool.not_true,Bool.not_false,Bool.and_false,go_sem,seval]
        · simp only [f22,k1,k2,l1,l2,Bool.not_true,Bool.not_false,Bool.and_true,go_sem,seval]
    · have k2 := len_ne hlen2
      rw [dec_f (show ¬ e=f from fun h => hlen2 (by rw [h])),Bool.and_false]
      rw [call_code F (show F 22=some (.code f22) from rfl)]
      simp only [f22,k1,k2,go_sem,seval]
  · have k1 := len_ne hlen
    rw [dec_f (show ¬ l=m from fun h => hlen (by rw [h])),Bool.false_and]
    rw [call_code F (show F 22=some (.code f22) from rfl)]
    simp only [f22,k1,go_sem,seval]
end Go.Proofs.Ytcecojdeljbjoaa.Sx
