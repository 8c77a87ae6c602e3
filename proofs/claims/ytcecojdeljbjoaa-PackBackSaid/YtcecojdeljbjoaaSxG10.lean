/- PackBack: what the law comes to. PackBack: all of it. The forms of this seat's arguments. -/
import Derived.Test.YtcecojdeljbjoaaRows
import Derived.Test.YtcecojdeljbjoaaSxG5
import Derived.Test.YtcecojdeljbjoaaSxG7
import Derived.Test.YtcecojdeljbjoaaSxG8
import Derived.Test.YtcecojdeljbjoaaSxG9
set_option maxRecDepth 100000
set_option linter.unusedSimpArgs false
set_option linter.unusedVariables false
namespace Go.Proofs.Ytcecojdeljbjoaa.Sx
open Go
theorem putD_short {v : List Vx} {e : List Ed} (hm : mayC v e=0) : (putD v e).length≤38000:=by
  obtain ⟨h,_⟩:=may_sml hm (fun x hx => by have:=(formC_ok.1 (mayC_form hm)).1.ring80 hx; omega)
  have:=vB_len h v.length
  rw [vB_end] at this
  exact this
theorem putD_eq {v w : List Vx} {e f : List Ed} (h : mayC v e=0) (k : mayC w f=0) : (putD v e == putD w f)=(decide (v=w) && decide (e=f)):=by
  by_cases hq : putD v e=putD w f
  · obtain ⟨rfl, rfl⟩ := (putD_inj h k).1 hq
    simp
  · have : ¬ (v = w ∧ e = f) := fun h2 => hq ((putD_inj h k).2 h2)
    rw [beq_eq_false_iff_ne.2 hq]
    symm
    simpa [Bool.and_eq_false_iff] using this
theorem t_back_no (vs ws : List Vx) (es fs : List Ed) (n : Int) (hno : ¬ (mayC (fewVx 26 82 vs) (es.take 42)=0∧mayC (fewVx 26 82 ws) (fs.take 42)=0)) :
    call F 7 [.agg [.sl .shared 5 (rowsBy Vx.c vs),.sl .shared 4 (rowsBy Ed.c es)],.agg [.sl .shared 5 (rowsBy Vx.c ws),.sl .shared 4 (rowsBy Ed.c fs)],.int .i64 n]=some (.bool true):=by
  have csh:=c_shown
  have cw:=c_few vs es
  have cx:=c_few ws fs
  have hr:=fewVx_ring 26 82 vs
  have hs:=fewVx_ring 26 82 ws
  generalize fewVx 26 82 vs=v at *
  generalize es.take 42=e at *
  generalize fewVx 26 82 ws=w at *
  generalize fs.take 42=f at *
  have cp:=i_pack_Put v e hr
  have cq:=i_pack_Put w f hs
  by_cases hm : mayC v e=0
  · have hk : ¬ mayC w f = 0 := fun h => hno ⟨hm, h⟩
    rw [if_pos hm] at cp
    rw [if_neg hk] at cq
    generalize mayC w f=c2 at *
    generalize putD v e=A at *
    rw [call_code F (show F 7=some (.code f7) from rfl)]
    simp only [f7,csh,cw,cx,cp,cq,hk,rowsBy_length,rowsBy_takeAll,Nat.reduceLT,renP,renS,decide_true,decide_false,Bool.not_true,Bool.not_false,go_sem,seval]
  · rw [if_neg hm] at cp
    by_cases hk : mayC w f=0
    · rw [if_pos hk] at cq
      generalize mayC v e=c1 at *
      generalize putD w f=B at *
      rw [call_code F (show F 7=some (.code f7) from rfl)]
      simp only [f7,csh,cw,cx,cp,cq,hm,rowsBy_length,rowsBy_takeAll,Nat.reduceLT,renP,renS,decide_true,decide_false,Bool.not_true,Bool.not_false,go_sem,seval]
    · rw [if_neg hk] at cq
      generalize mayC v e=c1 at *
      generalize mayC w f=c2 at *
      rw [call_code F (show F 7=some (.code f7) from rfl)]
      simp only [f7,csh,cw,cx,cp,cq,hm,hk,rowsBy_length,rowsBy_takeAll,Nat.reduceLT,renP,renS,decide_true,decide_false,Bool.not_true,Bool.not_false,go_sem,seval]
set_option maxHeartbeats 4000000 in
theorem t_back_ok (vs ws : List Vx) (es fs : List Ed) (n : Int) (hm : mayC (fewVx 26 82 vs) (es.take 42)=0) (hk : mayC (fewVx 26 82 ws) (fs.take 42)=0) :
    call F 7 [.agg [.sl .shared 5 (rowsBy Vx.c vs),.sl .shared 4 (rowsBy Ed.c es)],.agg [.sl .shared 5 (rowsBy Vx.c ws),.sl .shared 4 (rowsBy Ed.c fs)],.int .i64 n]=some (.bool true):=by
  have csh:=c_shown
  have cw:=c_few vs es
  have cx:=c_few ws fs
  have hr:=fewVx_ring 26 82 vs
  have hs:=fewVx_ring 26 82 ws
  have hl : (fewVx 26 82 vs).length≤26:=by unfold fewVx; rw [List.length_map,List.length_take]; omega
  have he : (es.take 42).length≤42:=by rw [List.length_take]; omega
  generalize fewVx 26 82 vs=v at *
  generalize es.take 42=e at *
  generalize fewVx 26 82 ws=w at *
  generalize fs.take 42=f at *
  have cp:=i_pack_Put v e hr
  have cq:=i_pack_Put w f hs
  rw [if_pos hm] at cp
  rw [if_pos hk] at cq
  have hA:=putD_short hm
  have hab:=putD_eq hm hk
  have s1:=i_r04_Same v v e e (Fits.of (by omega)) (fun x hx => Fits.of (by have:=hr x hx; omega)) (Fits.of (by omega))
  have s2:=i_r04_Same v w e f (Fits.of (by omega)) (fun x hx => Fits.of (by have:=hr x hx; omega)) (Fits.of (by omega))
  simp only [decide_true,Bool.and_self] at s1
  have k1:=i_pack_Take (putD v e) (by omega)
  have k2:=i_pack_Take (putD v e++[0]) (by rw [List.length_append]; simp; omega)
  have k3:=fun q (hq : q < (putD v e).length) => i_pack_Take ((putD v e).take q) (by rw [List.length_take]; omega)
  unfold takeDT at k1 k2 k3
  rw [takeD_put hm] at k1
  rw [takeD_more hm (by simp)] at k2
  simp only at k1 k2
  have k4 : ∀ q,q < (putD v e).length→call F 21 [.sl .shared 1 (rowsBy cByte ((putD v e).take q))]=some (.tup [.agg [.sl (.own 39) 5 [],.sl (.own 36) 4 []],.int .i64 2]):=fun q hq => by
    have:=k3 q hq
    rw [takeD_less hm hq] at this
    exact this
  clear k3
  rw [show rowsBy cByte (putD v e++[0])=rowsBy cByte (putD v e)++[[.int .u8 0]] from by rw [← rowsBy_snoc]; rfl] at k2
  clear hm hk hr hs
  generalize putD v e=A at *
  generalize putD w f=B at *
  generalize (decide (v=w) && decide (e=f))=S at *
  have b1 : (A.length+1) * 1≤140737488355328:=by omega
  have b2 : A.length * 1≤140737488355328:=by omega
  have tk0 : List.take (A.length+1) (rowsBy cByte A++[[TV.int .u8 0]])=rowsBy cByte A++[[TV.int .u8 0]]:=List.take_of_length_le (by rw [List.length_append,rowsBy_length]; simp)
  by_cases n0 : n < 0
  · cases e with
    | nil =>
      cases v with
      | nil =>
        simp only [oV,oE,rowsBy_nil] at k1 cw cp s1 s2
        rw [call_code F (show F 7=some (.code f7) from rfl)]
        cases S <;>
        simp only [f7,csh,cw,cx,cp,cq,k1,k2,s1,s2,hab,b1,b2,tk0,bytesOf_rows,rowsBy_length,rowsBy_takeAll,rowsBy_take,Nat.reduceLT,renP,renS,decide_true,decide_false,Bool.not_true,Bool.not_false,n0,go_sem,seval]
      | cons v l =>
        simp only [oV,oE,rowsBy_nil] at k1 cw cp s1 s2
        generalize v :: l=V1 at *
        rw [call_code F (show F 7=some (.code f7) from rfl)]
        cases S <;>
        simp only [f7,csh,cw,cx,cp,cq,k1,k2,s1,s2,hab,b1,b2,tk0,bytesOf_rows,rowsBy_length,rowsBy_takeAll,rowsBy_take,Nat.reduceLT,renP,renS,decide_true,decide_false,Bool.not_true,Bool.not_false,n0,go_sem,seval]
    | cons e es =>
      cases v with
      | nil =>
        simp only [oV,oE,rowsBy_nil] at k1 cw cp s1 s2
        generalize e :: es=L1 at *
        rw [call_code F (show F 7=some (.code f7) from rfl)]
        cases S <;>
        simp only [f7,csh,cw,cx,cp,cq,k1,k2,s1,s2,hab,b1,b2,tk0,bytesOf_rows,rowsBy_length,rowsBy_takeAll,rowsBy_take,Nat.reduceLT,renP,renS,decide_true,decide_false,Bool.not_true,Bool.not_false,n0,go_sem,seval]
      | cons v l =>
        simp only [oV,oE,rowsBy_nil] at k1 cw cp s1 s2
        generalize e :: es=L1 at *
        generalize v :: l=V1 at *
        rw [call_code F (show F 7=some (.code f7) from rfl)]
        cases S <;>
        simp only [f7,csh,cw,cx,cp,cq,k1,k2,s1,s2,hab,b1,b2,tk0,bytesOf_rows,rowsBy_length,rowsBy_takeAll,rowsBy_take,Nat.reduceLT,renP,renS,decide_true,decide_false,Bool.not_true,Bool.not_false,n0,go_sem,seval]
  · by_cases n1 : n ≥ (A.length : Int)
    · cases e with
      | nil =>
        cases v with
        | nil =>
          simp only [oV,oE,rowsBy_nil] at k1 cw cp s1 s2
          rw [call_code F (show F 7=some (.code f7) from rfl)]
          cases S <;>
          simp only [f7,csh,cw,cx,cp,cq,k1,k2,s1,s2,hab,b1,b2,tk0,bytesOf_rows,rowsBy_length,rowsBy_takeAll,rowsBy_take,Nat.reduceLT,renP,renS,decide_true,decide_false,Bool.not_true,Bool.not_false,n0,n1,go_sem,seval]
        | cons v l =>
          simp only [oV,oE,rowsBy_nil] at k1 cw cp s1 s2
          generalize v :: l=V1 at *
          rw [call_code F (show F 7=some (.code f7) from rfl)]
          cases S <;>
          simp only [f7,csh,cw,cx,cp,cq,k1,k2,s1,s2,hab,b1,b2,tk0,bytesOf_rows,rowsBy_length,rowsBy_takeAll,rowsBy_take,Nat.reduceLT,renP,renS,decide_true,decide_false,Bool.not_true,Bool.not_false,n0,n1,go_sem,seval]
      | cons e es =>
        cases v with
        | nil =>
          simp only [oV,oE,rowsBy_nil] at k1 cw cp s1 s2
          generalize e :: es=L1 at *
          rw [call_code F (show F 7=some (.code f7) from rfl)]
          cases S <;>
          simp only [f7,csh,cw,cx,cp,cq,k1,k2,s1,s2,hab,b1,b2,tk0,bytesOf_rows,rowsBy_length,rowsBy_takeAll,rowsBy_take,Nat.reduceLT,renP,renS,decide_true,decide_false,Bool.not_true,Bool.not_false,n0,n1,go_sem,seval]
        | cons v l =>
          simp only [oV,oE,rowsBy_nil] at k1 cw cp s1 s2
          generalize e :: es=L1 at *
          generalize v :: l=V1 at *
          rw [call_code F (show F 7=some (.code f7) from rfl)]
          cases S <;>
          simp only [f7,csh,cw,cx,cp,cq,k1,k2,s1,s2,hab,b1,b2,tk0,bytesOf_rows,rowsBy_length,rowsBy_takeAll,rowsBy_take,Nat.reduceLT,renP,renS,decide_true,decide_false,Bool.not_true,Bool.not_false,n0,n1,go_sem,seval]
    · obtain ⟨q, rfl⟩ : ∃ q : Nat, n = (q : Int) := ⟨n.toNat, by omega⟩
      have k5:=k4 q (by omega)
      have n2 : (0 : Int)≤(q : Int):=by omega
      have n3 : (q : Int)≤(A.length : Int):=by omega
      cases e with
      | nil =>
        cases v with
        | nil =>
          simp only [oV,oE,rowsBy_nil] at k1 cw cp s1 s2
          rw [call_code F (show F 7=some (.code f7) from rfl)]
          cases S <;>
          simp only [f7,csh,cw,cx,cp,cq,k1,k2,s1,s2,hab,b1,b2,tk0,bytesOf_rows,rowsBy_length,rowsBy_takeAll,rowsBy_take,Nat.reduceLT,renP,renS,decide_true,decide_false,Bool.not_true,Bool.not_false,n0,n1,n2,n3,k5,go_sem,seval]
        | cons v l =>
          simp only [oV,oE,rowsBy_nil] at k1 cw cp s1 s2
          generalize v :: l=V1 at *
          rw [call_code F (show F 7=some (.code f7) from rfl)]
          cases S <;>
          simp only [f7,csh,cw,cx,cp,cq,k1,k2,s1,s2,hab,b1,b2,tk0,bytesOf_rows,rowsBy_length,rowsBy_takeAll,rowsBy_take,Nat.reduceLT,renP,renS,decide_true,decide_false,Bool.not_true,Bool.not_false,n0,n1,n2,n3,k5,go_sem,seval]
      | cons e es =>
        cases v with
        | nil =>
          simp only [oV,oE,rowsBy_nil] at k1 cw cp s1 s2
          generalize e :: es=L1 at *
          rw [call_code F (show F 7=some (.code f7) from rfl)]
          cases S <;>
          simp only [f7,csh,cw,cx,cp,cq,k1,k2,s1,s2,hab,b1,b2,tk0,bytesOf_rows,rowsBy_length,rowsBy_takeAll,rowsBy_take,Nat.reduceLT,renP,renS,decide_true,decide_false,Bool.not_true,Bool.not_false,n0,n1,n2,n3,k5,go_sem,seval]
        | cons v l =>
          simp only [oV,oE,rowsBy_nil] at k1 cw cp s1 s2
          generalize e :: es=L1 at *
          generalize v :: l=V1 at *
          rw [call_code F (show F 7=some (.code f7) from rfl)]
          cases S <;>
          simp only [f7,csh,cw,cx,cp,cq,k1,k2,s1,s2,hab,b1,b2,tk0,bytesOf_rows,rowsBy_length,rowsBy_takeAll,rowsBy_take,Nat.reduceLT,renP,renS,decide_true,decide_false,Bool.not_true,Bool.not_false,n0,n1,n2,n3,k5,go_sem,seval]
end Go.Proofs.Ytcecojdeljbjoaa.Sx
namespace Go.Proofs.Ytcecojdeljbjoaa.Sx
open Go
theorem t_back (vs ws : List Vx) (es fs : List Ed) (n : Int) :
    call F 7 [.agg [.sl .shared 5 (rowsBy Vx.c vs),.sl .shared 4 (rowsBy Ed.c es)],.agg [.sl .shared 5 (rowsBy Vx.c ws),.sl .shared 4 (rowsBy Ed.c fs)],.int .i64 n]=some (.bool true):=by
  by_cases h : mayC (fewVx 26 82 vs) (es.take 42)=0∧mayC (fewVx 26 82 ws) (fs.take 42)=0
  · exact t_back_ok vs ws es fs n h.1 h.2
  · exact t_back_no vs ws es fs n h
end Go.Proofs.Ytcecojdeljbjoaa.Sx
namespace Go.Proofs.Ytcecojdeljbjoaa.Sx
open Go Go.RowKit Go.ChangeShapes Go.WideShapes Go.ChangeAt
set_option maxRecDepth 100000
theorem agg_of {t : TypeId} {n : Nat} {a : TV} (hagg : isAggB Try.prog t=true) (h : ArgShape Try.prog n t a) : ∃ ts,a=.agg ts∧Shape Try.prog n t ts:=by
  unfold ArgShape at h; rw [if_pos hagg] at h; exact h
theorem plain_of {t : TypeId} {n : Nat} {a : TV} (hagg : isAggB Try.prog t=false) (h : ArgShape Try.prog n t a) : Shape Try.prog n t [a]:=by
  unfold ArgShape at h; rw [if_neg (by rw [hagg]; simp)] at h; exact h
theorem own : ownKnob Try.prog.godebug=none:=by kernel_rfl
theorem laidOut : laidOutB Try.prog=true:=by kernel_rfl
theorem rows_list {α : Type} {c : α→List TV} {S : List TV→Prop} {Q : α→Prop} (h : ∀ ts,S ts→∃ x,ts=c x∧Q x) : ∀ {rows : List (List TV)},(∀ r∈rows,S r)→∃ l : List α,rows=rowsBy c l∧∀ x∈l,Q x
  | [],_ => ⟨[],rfl,by simp⟩
  | r :: rows, hr => by
    obtain ⟨x,rfl,hx⟩:=h r (hr r (by simp))
    obtain ⟨l,rfl,hl⟩:=rows_list h (rows:=rows) fun q hq => hr q (by simp [hq])
    refine ⟨x :: l,rfl,fun y hy => ?_⟩
    rcases List.mem_cons.1 hy with rfl | hy
    · exact hx
    · exact hl y hy
theorem shInt {n : Nat} {ts : List TV} (h : Shape Try.prog (n+1) 3 ts) : ∃ a,ts=[.int .i64 a]∧IntKind.i64.has a:=by
  unfold Shape at h; rw [Try.underlying3] at h; exact h
theorem shStr {n : Nat} {ts : List TV} (h : Shape Try.prog (n+1) 9 ts) : ∃ a : ByteArray,ts=[.str a]∧a.size≤140737488351232:=by
  unfold Shape at h; rw [Try.underlying9] at h
  obtain ⟨a,rfl,_,ha⟩:=h; exact ⟨a,rfl,ha⟩
theorem shID {n : Nat} {ts : List TV} (h : Shape Try.prog (n+2) 34 ts) : ∃ x : ID,ts=ID.c x:=by
  unfold Shape at h; rw [Try.underlying34] at h
  obtain ⟨x,r,rfl,h1,y,r',rfl,h2,rfl⟩:=h
  obtain ⟨a,rfl,ha⟩:=shInt h1
  obtain ⟨b,rfl,hb⟩:=shInt h2
  exact ⟨⟨a,b⟩,rfl⟩
theorem shDart {n : Nat} {ts : List TV} (h : Shape Try.prog (n+3) 56 ts) : ∃ x : Dart,ts=Dart.c x:=by
  unfold Shape at h; rw [Try.underlying56] at h
  obtain ⟨x,r,rfl,h1,y,r',rfl,h2,rfl⟩:=h
  obtain ⟨e,rfl⟩:=shID h1
  obtain ⟨c,rfl,_⟩:=shInt h2
  exact ⟨⟨e,c⟩,rfl⟩
theorem shDarts {n : Nat} {ts : List TV} (h : Shape Try.prog (n+4) 37 ts) : ∃ l : List Dart,ts=[.sl .shared 3 (rowsBy Dart.c l)]∧Fits l:=by
  unfold Shape at h; rw [Try.underlying37] at h
  obtain ⟨rows,rfl,⟨_,hb⟩,hr⟩:=h
  obtain ⟨l,rfl,_⟩:=rows_list (c:=Dart.c) (Q:=fun _ => True) (fun ts h => (shDart h).imp fun _ h => ⟨h,trivial⟩) hr
  refine ⟨l,rfl,Fits.of ?_⟩
  rw [rowsBy_length,show Try.prog.bytesOf 56=24 by kernel_rfl] at hb
  simp only [reachBytes] at hb
  omega
def VxOk (v : Vx) : Prop:=Fits v.ring∧v.label.size≤9223372036854775807
def EdOk (v : Ed) : Prop:=v.label.size≤9223372036854775807
theorem shVx {n : Nat} {ts : List TV} (h : Shape Try.prog (n+5) 39 ts) : ∃ x : Vx,ts=Vx.c x∧VxOk x:=by
  unfold Shape at h; rw [Try.underlying39] at h
  obtain ⟨x,r,rfl,h1,y,r',rfl,h2,z,r'',rfl,h3,u,r3,rfl,h4,rfl⟩:=h
  obtain ⟨e,rfl⟩:=shID h1
  obtain ⟨l,rfl,hl⟩:=shDarts h2
  obtain ⟨s,rfl,hs⟩:=shStr h3
  obtain ⟨c,rfl,_⟩:=shInt h4
  exact ⟨⟨e,l,s,c⟩,rfl,hl,Nat.le_trans hs (by decide)⟩
theorem shEd {n : Nat} {ts : List TV} (h : Shape Try.prog (n+3) 36 ts) : ∃ x : Ed,ts=Ed.c x∧EdOk x:=by
  unfold Shape at h; rw [Try.underlying36] at h
  obtain ⟨x,r,rfl,h1,z,r'',rfl,h3,u,r3,rfl,h4,rfl⟩:=h
  obtain ⟨e,rfl⟩:=shID h1
  obtain ⟨s,rfl,hs⟩:=shStr h3
  obtain ⟨c,rfl,_⟩:=shInt h4
  exact ⟨⟨e,s,c⟩,rfl,Nat.le_trans hs (by decide)⟩
theorem shVxs {n : Nat} {ts : List TV} (h : Shape Try.prog (n+6) 22 ts) : ∃ l : List Vx,ts=[.sl .shared 5 (rowsBy Vx.c l)]∧∀ v∈l,VxOk v:=by
  unfold Shape at h; rw [Try.underlying22] at h
  obtain ⟨rows,rfl,_,hr⟩:=h
  obtain ⟨l,rfl,hl⟩:=rows_list (c:=Vx.c) (fun ts h => shVx h) hr
  exact ⟨l,rfl,hl⟩
theorem shEds {n : Nat} {ts : List TV} (h : Shape Try.prog (n+4) 23 ts) : ∃ l : List Ed,ts=[.sl .shared 4 (rowsBy Ed.c l)]∧∀ v∈l,EdOk v:=by
  unfold Shape at h; rw [Try.underlying23] at h
  obtain ⟨rows,rfl,_,hr⟩:=h
  obtain ⟨l,rfl,hl⟩:=rows_list (c:=Ed.c) (fun ts h => shEd h) hr
  exact ⟨l,rfl,hl⟩
theorem shDiagram {n : Nat} {ts : List TV} (h : Shape Try.prog (n+7) 25 ts) : ∃ (vs : List Vx) (es : List Ed),ts=[.sl .shared 5 (rowsBy Vx.c vs),.sl .shared 4 (rowsBy Ed.c es)]∧FitsR vs∧FitsL vs es:=by
  unfold Shape at h; rw [Try.underlying25] at h
  obtain ⟨x,r,rfl,h1,z,r'',rfl,h3,rfl⟩:=h
  obtain ⟨d,rfl,hd⟩:=shVxs h1
  obtain ⟨e,rfl,he⟩:=shEds h3
  exact ⟨d,e,rfl,fun v hv => (hd v hv).1,fun v hv => (hd v hv).2,he⟩
end Go.Proofs.Ytcecojdeljbjoaa.Sx
