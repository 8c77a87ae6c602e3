/- Chapter 8: the first of some; sizes. Chapter 8: diagrams laid down. The forms of this seat's arguments. -/
import Derived.Test.YtcecojdeljbjoaaRows
import Derived.Test.YtcecojdeljbjoaaSxG5
import Derived.Test.YtcecojdeljbjoaaSxG7
import Derived.Test.YtcecojdeljbjoaaSxG8
import Derived.Test.YtcecojdeljbjoaaSxG9
set_option maxRecDepth 100000
set_option linter.unusedSimpArgs false
set_option linter.unusedVariables false
namespace Go.Proofs.Ytcecojdeljbjoaa.Sx
open Go
def fewVx (n k : Nat) (l : List Vx) : List Vx:=(l.take n).map fun v => ⟨v.id,v.ring.take k,v.label,v.attr⟩
theorem fewVx_len (n k : Nat) (l : List Vx) : (fewVx n k l).length≤n:=by unfold fewVx; rw [List.length_map,List.length_take]; omega
theorem fewVx_ring (n k : Nat) (l : List Vx) : ∀ v∈fewVx n k l,v.ring.length≤k:=by
  intro v hv
  unfold fewVx at hv
  obtain ⟨w,_,rfl⟩:=List.mem_map.1 hv
  show (w.ring.take k).length≤_
  rw [List.length_take]; omega
theorem fewVx_succ {n k : Nat} {l : List Vx} (h : n < l.length) : fewVx (n+1) k l=fewVx n k l++[⟨l[n].id,l[n].ring.take k,l[n].label,l[n].attr⟩]:=by
  unfold fewVx
  rw [List.take_succ_eq_append_getElem h,List.map_append]; rfl
theorem fewVx_min (n k : Nat) (l : List Vx) : fewVx (min l.length n) k l=fewVx n k l:=by
  unfold fewVx
  congr 1
  rcases Nat.le_total l.length n with h | h
  · rw [Nat.min_eq_left h,List.take_of_length_le (Nat.le_refl _),List.take_of_length_le h]
  · rw [Nat.min_eq_right h]
theorem take_min {α : Type} (n : Nat) (l : List α) : l.take (min l.length n)=l.take n:=by
  rcases Nat.le_total l.length n with h | h
  · rw [Nat.min_eq_left h,List.take_of_length_le (Nat.le_refl _),List.take_of_length_le h]
  · rw [Nat.min_eq_right h]
theorem few_l1 (vs : List Vx) (es : List Ed) : E (cs F) 0 f11_l1 (⟨(upd (upd (upd (upd Sx.e0 4 (.v (.int .i64 (0)))) 3 (.p 3 0)) 2 (.p 2 0)) 1 (.p 1 0)),(upd (upd (upd Sx.h0 3 (some (.var false [(.v (.sl (.tight 39) 5 [])),(.v (.sl (.tight 36) 4 []))]))) 2 (some (.var false [(.v (.sl (.tight 39) 5 [])),(.v (.sl (.tight 36) 4 []))]))) 1 (some (.var false [(.v (.sl .shared 5 (rowsBy Vx.c vs))),(.v (.sl .shared 4 (rowsBy Ed.c es)))])))⟩ : St) =
    some (if min vs.length 26=0 then (.exit 0,(⟨(upd (upd (upd Sx.e0 3 (.p 3 0)) 2 (.p 2 0)) 1 (.p 1 0)),(upd (upd (upd Sx.h0 3 (some (.var false [(.v (.sl (.tight 39) 5 [])),(.v (.sl (.tight 36) 4 []))]))) 2 (some (.var false [(.v (.sl (.tight 39) 5 [])),(.v (.sl (.tight 36) 4 []))]))) 1 (some (.var false [(.v (.sl .shared 5 (rowsBy Vx.c vs))),(.v (.sl .shared 4 (rowsBy Ed.c es)))])))⟩ : St)) else (.exit 0,(⟨(upd (upd (upd Sx.e0 3 (.p 3 0)) 2 (.p 2 0)) 1 (.p 1 0)),(upd (upd (upd (upd Sx.h0 10192 (some (.arr false 39 5 (rowsBy Vx.c (fewVx 26 82 vs))))) 3 (some (.var false [(.s 10192 0 (fewVx 26 82 vs).length),(.v (.sl (.tight 36) 4 []))]))) 2 (some (.var false [(.v (.sl (.tight 39) 5 [])),(.v (.sl (.tight 36) 4 []))]))) 1 (some (.var false [(.v (.sl .shared 5 (rowsBy Vx.c vs))),(.v (.sl .shared 4 (rowsBy Ed.c es)))])))⟩ : St))):=by
  rw [← fewVx_min 26 82 vs]
  have l1 : E (cs F) 0 f11_l1 (⟨(upd (upd (upd (upd Sx.e0 4 (.v (.int .i64 (0)))) 3 (.p 3 0)) 2 (.p 2 0)) 1 (.p 1 0)),(upd (upd (upd Sx.h0 3 (some (.var false [(.v (.sl (.tight 39) 5 [])),(.v (.sl (.tight 36) 4 []))]))) 2 (some (.var false [(.v (.sl (.tight 39) 5 [])),(.v (.sl (.tight 36) 4 []))]))) 1 (some (.var false [(.v (.sl .shared 5 (rowsBy Vx.c vs))),(.v (.sl .shared 4 (rowsBy Ed.c es)))])))⟩ : St)=some (if min vs.length 26=0 then (.exit 0,(⟨(upd (upd (upd Sx.e0 3 (.p 3 0)) 2 (.p 2 0)) 1 (.p 1 0)),(upd (upd (upd Sx.h0 3 (some (.var false [(.v (.sl (.tight 39) 5 [])),(.v (.sl (.tight 36) 4 []))]))) 2 (some (.var false [(.v (.sl (.tight 39) 5 [])),(.v (.sl (.tight 36) 4 []))]))) 1 (some (.var false [(.v (.sl .shared 5 (rowsBy Vx.c vs))),(.v (.sl .shared 4 (rowsBy Ed.c es)))])))⟩ : St)) else (.exit 0,(⟨(upd (upd (upd Sx.e0 3 (.p 3 0)) 2 (.p 2 0)) 1 (.p 1 0)),(upd (upd (upd (upd Sx.h0 10192 (some (.arr false 39 5 (rowsBy Vx.c (fewVx (min vs.length 26) 82 vs))))) 3 (some (.var false [(.s 10192 0 (fewVx (min vs.length 26) 82 vs).length),(.v (.sl (.tight 36) 4 []))]))) 2 (some (.var false [(.v (.sl (.tight 39) 5 [])),(.v (.sl (.tight 36) 4 []))]))) 1 (some (.var false [(.v (.sl .shared 5 (rowsBy Vx.c vs))),(.v (.sl .shared 4 (rowsBy Ed.c es)))])))⟩ : St))):=by
    refine loop_grow (b:=f11_b1) _ (fun q0 => (⟨(upd (upd (upd (upd Sx.e0 4 (.v (.int .i64 ((q0 : Int))))) 3 (.p 3 0)) 2 (.p 2 0)) 1 (.p 1 0)),(upd (upd (upd (upd Sx.h0 10192 (some (.arr false 39 5 (rowsBy Vx.c (fewVx q0 82 vs))))) 3 (some (.var false [(.s 10192 0 (fewVx q0 82 vs).length),(.v (.sl (.tight 36) 4 []))]))) 2 (some (.var false [(.v (.sl (.tight 39) 5 [])),(.v (.sl (.tight 36) 4 []))]))) 1 (some (.var false [(.v (.sl .shared 5 (rowsBy Vx.c vs))),(.v (.sl .shared 4 (rowsBy Ed.c es)))])))⟩ : St)) (min vs.length 26) ?_ (by simp) ?_ ?_ ?_ (by simp)
    · intro h0
      have h0' : vs.length=0:=by omega
      simp only [f11_b1,show decide ((0 : Int) < (vs.length : Int))=false from decide_eq_false (by omega),go_sem,seval]
    · intro hn
      have h1 : 0 < vs.length:=by omega
      have hs:=fewVx_succ (n:=0) (k:=82) h1
      have e0 : fewVx 0 82 vs=[]:=rfl
      rw [e0,List.nil_append,Nat.zero_add] at hs
      rw [hs]
      have e2 : rowsBy Vx.c [⟨vs[0].id,vs[0].ring.take 82,vs[0].label,vs[0].attr⟩]=[[.int .i64 vs[0].id.s,.int .i64 vs[0].id.n,.sl .shared 3 (rowsBy Dart.c (vs[0].ring.take 82)),.str vs[0].label,.int .i64 vs[0].attr]]:=rfl
      rw [e2]
      have d1 : decide ((0 : Int) < (vs.length : Int))=true:=decide_eq_true (by omega)
      have h1z : (0 : Int) < (vs.length : Int):=by omega
      by_cases hr : vs[0].ring.length > 82
      · have k1 : decide ((vs[0].ring.length : Int) > 82) = true := decide_eq_true (by omega)
        have k2 : (82 : Int)≤(vs[0].ring.length : Int):=by omega
        simp only [f11_b1,d1,h1z,rowsBy_get Vx.c h1,Vx.c,k1,k2,Int.reduceLT,show IntKind.i64.wrap 1=1 from rfl,go_sem,seval]
      · have k1 : decide ((vs[0].ring.length : Int) > 82) = false := decide_eq_false (by omega)
        rw [List.take_of_length_le (show vs[0].ring.length≤82 by omega)]
        simp only [f11_b1,d1,h1z,rowsBy_get Vx.c h1,Vx.c,k1,Int.reduceLT,show IntKind.i64.wrap 1=1 from rfl,go_sem,seval]
    · intro i hi0 hi
      have h1 : i < vs.length:=by omega
      have h1z : (i : Int) < (vs.length : Int):=by omega
      have h2 : i < 26:=by omega
      have h3 : decide ((i : Int) < 26)=true:=decide_eq_true (by omega)
      have hw : (26 : Nat)≤9223372036854775807:=by decide
      have hs:=fewVx_succ (k:=82) h1
      have hl : (fewVx i 82 vs).length≤i:=fewVx_len i 82 vs
      have h5 : ((fewVx i 82 vs).length+1) * 64≤140737488355328:=by omega
      rw [hs]
      have e2 : (fewVx i 82 vs++([⟨vs[i].id,vs[i].ring.take 82,vs[i].label,vs[i].attr⟩] : List Vx)).length=(fewVx i 82 vs).length+1:=by rw [List.length_append]; rfl
      rw [e2]
      generalize fewVx i 82 vs=m at *
      have e3 : rowsBy Vx.c m++[[.int .i64 vs[i].id.s,.int .i64 vs[i].id.n,.sl .shared 3 (rowsBy Dart.c (vs[i].ring.take 82)),.str vs[i].label,.int .i64 vs[i].attr]]=rowsBy Vx.c (m++[⟨vs[i].id,vs[i].ring.take 82,vs[i].label,vs[i].attr⟩]):=rowsBy_snoc Vx.c m ⟨vs[i].id,vs[i].ring.take 82,vs[i].label,vs[i].attr⟩
      by_cases hr : vs[i].ring.length > 82
      · have k1 : decide ((vs[i].ring.length : Int) > 82) = true := decide_eq_true (by omega)
        have k2 : (82 : Int)≤(vs[i].ring.length : Int):=by omega
        simp only [f11_b1,dec_lt h1,h1z,h3,rowsBy_get Vx.c h1,Vx.c,k1,k2,h5,e3,wrap_succ h2 hw,List.take_length,go_sem,seval]
      · have k1 : decide ((vs[i].ring.length : Int) > 82) = false := decide_eq_false (by omega)
        rw [List.take_of_length_le (show vs[i].ring.length≤82 by omega)] at e3 ⊢
        simp only [f11_b1,dec_lt h1,h1z,h3,rowsBy_get Vx.c h1,Vx.c,k1,h5,e3,wrap_succ h2 hw,List.take_length,go_sem,seval]
    · intro hn
      by_cases h : vs.length≤26
      · rw [Nat.min_eq_left h]
        simp only [f11_b1,dec_ge (Nat.le_refl vs.length),go_sem,seval]
      · rw [Nat.min_eq_right (by omega)]
        simp only [f11_b1,show decide ((26 : Int) < (vs.length : Int))=true from decide_eq_true (by omega),show decide (((26 : Nat) : Int) < 26)=false by decide,go_sem,seval]
  exact l1
theorem few_l2a (vs : List Vx) (es : List Ed) : E (cs F) 0 f11_l2 (⟨(upd (upd (upd (upd Sx.e0 6 (.v (.int .i64 (0)))) 3 (.p 3 0)) 2 (.p 2 0)) 1 (.p 1 0)),(upd (upd (upd Sx.h0 3 (some (.var false [(.v (.sl (.tight 39) 5 [])),(.v (.sl (.tight 36) 4 []))]))) 2 (some (.var false [(.v (.sl (.tight 39) 5 [])),(.v (.sl (.tight 36) 4 []))]))) 1 (some (.var false [(.v (.sl .shared 5 (rowsBy Vx.c vs))),(.v (.sl .shared 4 (rowsBy Ed.c es)))])))⟩ : St) =
    some (if min es.length 42=0 then (.exit 2,(⟨(upd (upd Sx.e0 3 (.p 3 0)) 2 (.p 2 0)),(upd (upd Sx.h0 3 (some (.var false [(.v (.sl (.tight 39) 5 [])),(.v (.sl (.tight 36) 4 []))]))) 2 (some (.var false [(.v (.sl (.tight 39) 5 [])),(.v (.sl (.tight 36) 4 []))])))⟩ : St)) else (.exit 2,(⟨(upd (upd Sx.e0 3 (.p 3 0)) 2 (.p 2 0)),(upd (upd (upd Sx.h0 10193 (some (.arr false 36 4 (rowsBy Ed.c (es.take 42))))) 3 (some (.var false [(.v (.sl (.tight 39) 5 [])),(.s 10193 0 (es.take 42).length)]))) 2 (some (.var false [(.v (.sl (.tight 39) 5 [])),(.v (.sl (.tight 36) 4 []))])))⟩ : St))):=by
  rw [← take_min 42 es]
  have l1 : E (cs F) 0 f11_l2 (⟨(upd (upd (upd (upd Sx.e0 6 (.v (.int .i64 (0)))) 3 (.p 3 0)) 2 (.p 2 0)) 1 (.p 1 0)),(upd (upd (upd Sx.h0 3 (some (.var false [(.v (.sl (.tight 39) 5 [])),(.v (.sl (.tight 36) 4 []))]))) 2 (some (.var false [(.v (.sl (.tight 39) 5 [])),(.v (.sl (.tight 36) 4 []))]))) 1 (some (.var false [(.v (.sl .shared 5 (rowsBy Vx.c vs))),(.v (.sl .shared 4 (rowsBy Ed.c es)))])))⟩ : St)=some (if min es.length 42=0 then (.exit 2,(⟨(upd (upd Sx.e0 3 (.p 3 0)) 2 (.p 2 0)),(upd (upd Sx.h0 3 (some (.var false [(.v (.sl (.tight 39) 5 [])),(.v (.sl (.tight 36) 4 []))]))) 2 (some (.var false [(.v (.sl (.tight 39) 5 [])),(.v (.sl (.tight 36) 4 []))])))⟩ : St)) else (.exit 2,(⟨(upd (upd Sx.e0 3 (.p 3 0)) 2 (.p 2 0)),(upd (upd (upd Sx.h0 10193 (some (.arr false 36 4 (rowsBy Ed.c (es.take (min es.length 42)))))) 3 (some (.var false [(.v (.sl (.tight 39) 5 [])),(.s 10193 0 (es.take (min es.length 42)).length)]))) 2 (some (.var false [(.v (.sl (.tight 39) 5 [])),(.v (.sl (.tight 36) 4 []))])))⟩ : St))):=by
    refine loop_grow (b:=f11_b2) _ (fun q0 => (⟨(upd (upd (upd (upd Sx.e0 6 (.v (.int .i64 ((q0 : Int))))) 3 (.p 3 0)) 2 (.p 2 0)) 1 (.p 1 0)),(upd (upd (upd (upd Sx.h0 10193 (some (.arr false 36 4 (rowsBy Ed.c (es.take q0))))) 3 (some (.var false [(.v (.sl (.tight 39) 5 [])),(.s 10193 0 (es.take q0).length)]))) 2 (some (.var false [(.v (.sl (.tight 39) 5 [])),(.v (.sl (.tight 36) 4 []))]))) 1 (some (.var false [(.v (.sl .shared 5 (rowsBy Vx.c vs))),(.v (.sl .shared 4 (rowsBy Ed.c es)))])))⟩ : St)) (min es.length 42) ?_ (by simp) ?_ ?_ ?_ (by simp)
    · intro h0
      simp only [f11_b2,show decide ((0 : Int) < (es.length : Int))=false from decide_eq_false (by omega),go_sem,seval]
    · intro hn
      have h1 : 0 < es.length:=by omega
      have hs : es.take 1=[es[0]]:=List.take_succ_eq_append_getElem (i:=0) h1
      rw [hs]
      have e2 : rowsBy Ed.c [es[0]]=[[.int .i64 es[0].id.s,.int .i64 es[0].id.n,.str es[0].label,.int .i64 es[0].attr]]:=rfl
      rw [e2]
      have d1 : decide ((0 : Int) < (es.length : Int))=true:=decide_eq_true (by omega)
      have h1z : (0 : Int) < (es.length : Int):=by omega
      simp only [f11_b2,d1,h1z,rowsBy_get Ed.c h1,Ed.c,Int.reduceLT,show IntKind.i64.wrap 1=1 from rfl,go_sem,seval]
    · intro i hi0 hi
      have h1 : i < es.length:=by omega
      have h1z : (i : Int) < (es.length : Int):=by omega
      have h2 : i < 42:=by omega
      have h3 : decide ((i : Int) < 42)=true:=decide_eq_true (by omega)
      have hw : (42 : Nat)≤9223372036854775807:=by decide
      have hs : es.take (i+1)=es.take i++[es[i]]:=List.take_succ_eq_append_getElem h1
      have hl : (es.take i).length≤i:=by rw [List.length_take]; omega
      have h5 : ((es.take i).length+1) * 40≤140737488355328:=by omega
      rw [hs]
      have e2 : (es.take i++[es[i]]).length=(es.take i).length+1:=by rw [List.length_append]; rfl
      rw [e2]
      generalize es.take i=q at *
      have e3 : rowsBy Ed.c q++[[.int .i64 es[i].id.s,.int .i64 es[i].id.n,.str es[i].label,.int .i64 es[i].attr]]=rowsBy Ed.c (q++[es[i]]):=rowsBy_snoc Ed.c q es[i]
      simp only [f11_b2,dec_lt h1,h1z,h3,rowsBy_get Ed.c h1,Ed.c,h5,e3,wrap_succ h2 hw,List.take_length,go_sem,seval]
    · intro hn
      by_cases h : es.length≤42
      · rw [Nat.min_eq_left h]
        simp only [f11_b2,dec_ge (Nat.le_refl es.length),go_sem,seval]
      · rw [Nat.min_eq_right (by omega)]
        simp only [f11_b2,show decide ((42 : Int) < (es.length : Int))=true from decide_eq_true (by omega),show decide (((42 : Nat) : Int) < 42)=false by decide,go_sem,seval]
  exact l1
theorem few_l2b (vs : List Vx) (es : List Ed) (m : List Vx) : E (cs F) 0 f11_l2 (⟨(upd (upd (upd (upd Sx.e0 6 (.v (.int .i64 (0)))) 3 (.p 3 0)) 2 (.p 2 0)) 1 (.p 1 0)),(upd (upd (upd (upd Sx.h0 10192 (some (.arr false 39 5 (rowsBy Vx.c m)))) 3 (some (.var false [(.s 10192 0 m.length),(.v (.sl (.tight 36) 4 []))]))) 2 (some (.var false [(.v (.sl (.tight 39) 5 [])),(.v (.sl (.tight 36) 4 []))]))) 1 (some (.var false [(.v (.sl .shared 5 (rowsBy Vx.c vs))),(.v (.sl .shared 4 (rowsBy Ed.c es)))])))⟩ : St) =
    some (if min es.length 42=0 then (.exit 2,(⟨(upd (upd Sx.e0 3 (.p 3 0)) 2 (.p 2 0)),(upd (upd (upd Sx.h0 10192 (some (.arr false 39 5 (rowsBy Vx.c m)))) 3 (some (.var false [(.s 10192 0 m.length),(.v (.sl (.tight 36) 4 []))]))) 2 (some (.var false [(.v (.sl (.tight 39) 5 [])),(.v (.sl (.tight 36) 4 []))])))⟩ : St)) else (.exit 2,(⟨(upd (upd Sx.e0 3 (.p 3 0)) 2 (.p 2 0)),(upd (upd (upd (upd Sx.h0 10193 (some (.arr false 36 4 (rowsBy Ed.c (es.take 42))))) 10192 (some (.arr false 39 5 (rowsBy Vx.c m)))) 3 (some (.var false [(.s 10192 0 m.length),(.s 10193 0 (es.take 42).length)]))) 2 (some (.var false [(.v (.sl (.tight 39) 5 [])),(.v (.sl (.tight 36) 4 []))])))⟩ : St))):=by
  rw [← take_min 42 es]
  have l1 : E (cs F) 0 f11_l2 (⟨(upd (upd (upd (upd Sx.e0 6 (.v (.int .i64 (0)))) 3 (.p 3 0)) 2 (.p 2 0)) 1 (.p 1 0)),(upd (upd (upd (upd Sx.h0 10192 (some (.arr false 39 5 (rowsBy Vx.c m)))) 3 (some (.var false [(.s 10192 0 m.length),(.v (.sl (.tight 36) 4 []))]))) 2 (some (.var false [(.v (.sl (.tight 39) 5 [])),(.v (.sl (.tight 36) 4 []))]))) 1 (some (.var false [(.v (.sl .shared 5 (rowsBy Vx.c vs))),(.v (.sl .shared 4 (rowsBy Ed.c es)))])))⟩ : St)=some (if min es.length 42=0 then (.exit 2,(⟨(upd (upd Sx.e0 3 (.p 3 0)) 2 (.p 2 0)),(upd (upd (upd Sx.h0 10192 (some (.arr false 39 5 (rowsBy Vx.c m)))) 3 (some (.var false [(.s 10192 0 m.length),(.v (.sl (.tight 36) 4 []))]))) 2 (some (.var false [(.v (.sl (.tight 39) 5 [])),(.v (.sl (.tight 36) 4 []))])))⟩ : St)) else (.exit 2,(⟨(upd (upd Sx.e0 3 (.p 3 0)) 2 (.p 2 0)),(upd (upd (upd (upd Sx.h0 10193 (some (.arr false 36 4 (rowsBy Ed.c (es.take (min es.length 42)))))) 10192 (some (.arr false 39 5 (rowsBy Vx.c m)))) 3 (some (.var false [(.s 10192 0 m.length),(.s 10193 0 (es.take (min es.length 42)).length)]))) 2 (some (.var false [(.v (.sl (.tight 39) 5 [])),(.v (.sl (.tight 36) 4 []))])))⟩ : St))):=by
    refine loop_grow (b:=f11_b2) _ (fun q0 => (⟨(upd (upd (upd (upd Sx.e0 6 (.v (.int .i64 ((q0 : Int))))) 3 (.p 3 0)) 2 (.p 2 0)) 1 (.p 1 0)),(upd (upd (upd (upd (upd Sx.h0 10193 (some (.arr false 36 4 (rowsBy Ed.c (es.take q0))))) 10192 (some (.arr false 39 5 (rowsBy Vx.c m)))) 3 (some (.var false [(.s 10192 0 m.length),(.s 10193 0 (es.take q0).length)]))) 2 (some (.var false [(.v (.sl (.tight 39) 5 [])),(.v (.sl (.tight 36) 4 []))]))) 1 (some (.var false [(.v (.sl .shared 5 (rowsBy Vx.c vs))),(.v (.sl .shared 4 (rowsBy Ed.c es)))])))⟩ : St)) (min es.length 42) ?_ (by simp) ?_ ?_ ?_ (by simp)
    · intro h0
      simp only [f11_b2,show decide ((0 : Int) < (es.length : Int))=false from decide_eq_false (by omega),go_sem,seval]
    · intro hn
      have h1 : 0 < es.length:=by omega
      have hs : es.take 1=[es[0]]:=List.take_succ_eq_append_getElem (i:=0) h1
      rw [hs]
      have e2 : rowsBy Ed.c [es[0]]=[[.int .i64 es[0].id.s,.int .i64 es[0].id.n,.str es[0].label,.int .i64 es[0].attr]]:=rfl
      rw [e2]
      have d1 : decide ((0 : Int) < (es.length : Int))=true:=decide_eq_true (by omega)
      have h1z : (0 : Int) < (es.length : Int):=by omega
      simp only [f11_b2,d1,h1z,rowsBy_get Ed.c h1,Ed.c,Int.reduceLT,show IntKind.i64.wrap 1=1 from rfl,go_sem,seval]
    · intro i hi0 hi
      have h1 : i < es.length:=by omega
      have h1z : (i : Int) < (es.length : Int):=by omega
      have h2 : i < 42:=by omega
      have h3 : decide ((i : Int) < 42)=true:=decide_eq_true (by omega)
      have hw : (42 : Nat)≤9223372036854775807:=by decide
      have hs : es.take (i+1)=es.take i++[es[i]]:=List.take_succ_eq_append_getElem h1
      have hl : (es.take i).length≤i:=by rw [List.length_take]; omega
      have h5 : ((es.take i).length+1) * 40≤140737488355328:=by omega
      rw [hs]
      have e2 : (es.take i++[es[i]]).length=(es.take i).length+1:=by rw [List.length_append]; rfl
      rw [e2]
      generalize es.take i=q at *
      have e3 : rowsBy Ed.c q++[[.int .i64 es[i].id.s,.int .i64 es[i].id.n,.str es[i].label,.int .i64 es[i].attr]]=rowsBy Ed.c (q++[es[i]]):=rowsBy_snoc Ed.c q es[i]
      simp only [f11_b2,dec_lt h1,h1z,h3,rowsBy_get Ed.c h1,Ed.c,h5,e3,wrap_succ h2 hw,List.take_length,go_sem,seval]
    · intro hn
      by_cases h : es.length≤42
      · rw [Nat.min_eq_left h]
        simp only [f11_b2,dec_ge (Nat.le_refl es.length),go_sem,seval]
      · rw [Nat.min_eq_right (by omega)]
        simp only [f11_b2,show decide ((42 : Int) < (es.length : Int))=true from decide_eq_true (by omega),show decide (((42 : Nat) : Int) < 42)=false by decide,go_sem,seval]
  exact l1
theorem c_few (vs : List Vx) (es : List Ed) : call F 11 [.agg [.sl .shared 5 (rowsBy Vx.c vs),.sl .shared 4 (rowsBy Ed.c es)]]=some (.agg [.sl (.own 39) 5 (rowsBy Vx.c (fewVx 26 82 vs)),.sl (.own 36) 4 (rowsBy Ed.c (es.take 42))]):=by
  have l1:=few_l1 vs es
  have ze : min es.length 42=0→es.take 42=[]:=fun h => List.eq_nil_of_length_eq_zero (by rw [List.length_take]; omega)
  have zv : min vs.length 26=0→fewVx 26 82 vs=[]:=fun h => List.eq_nil_of_length_eq_zero (by unfold fewVx; rw [List.length_map,List.length_take]; omega)
  by_cases h1 : min vs.length 26=0
  · rw [if_pos h1] at l1
    have l2:=few_l2a vs es
    rw [zv h1]
    by_cases h2 : min es.length 42=0
    · rw [if_pos h2] at l2
      rw [ze h2]
      rw [call_code F (show F 11=some (.code f11) from rfl)]
      simp only [f11,l1,l2,rowsBy_nil,go_sem,seval]
    · rw [if_neg h2] at l2
      generalize es.take 42=q at *
      rw [call_code F (show F 11=some (.code f11) from rfl)]
      simp only [f11,l1,l2,rowsBy_nil,List.take_length,go_sem,seval]
  · rw [if_neg h1] at l1
    have l2:=few_l2b vs es (fewVx 26 82 vs)
    generalize fewVx 26 82 vs=m at *
    by_cases h2 : min es.length 42=0
    · rw [if_pos h2] at l2
      rw [ze h2]
      rw [call_code F (show F 11=some (.code f11) from rfl)]
      simp only [f11,l1,l2,rowsBy_nil,List.take_length,go_sem,seval]
    · rw [if_neg h2] at l2
      generalize es.take 42=q at *
      rw [call_code F (show F 11=some (.code f11) from rfl)]
      simp only [f11,l1,l2,rowsBy_nil,List.take_length,go_sem,seval]
end Go.Proofs.Ytcecojdeljbjoaa.Sx
namespace Go.Proofs.Ytcecojdeljbjoaa.Sx
open Go
theorem few_fitsL (vs : List Vx) (es : List Ed) (n k m : Nat) (h : FitsL vs es) : FitsL (fewVx n k vs) (es.take m):=by
  refine ⟨fun v hv => ?_,fun v hv => h.2 v (List.mem_of_mem_take hv)⟩
  unfold fewVx at hv
  obtain ⟨w,hw,rfl⟩:=List.mem_map.1 hv
  exact h.1 w (List.mem_of_mem_take hw)
theorem t_puts (vs : List Vx) (es : List Ed) (hL : FitsL vs es) : call F 3 [.agg [.sl .shared 5 (rowsBy Vx.c vs),.sl .shared 4 (rowsBy Ed.c es)]]=some (.bool true):=by
  have csh:=c_shown
  have cw:=c_few vs es
  have hr:=fewVx_ring 26 82 vs
  have hL':=few_fitsL vs es 26 82 42 hL
  generalize fewVx 26 82 vs=v at *
  generalize es.take 42=e at *
  have cp:=i_pack_Put v e hr
  have cq:=i_r08_Put v e hr hL'
  by_cases hm : mayC v e=0
  · rw [if_pos hm] at cp cq
    generalize putD v e=B at *
    rw [call_code F (show F 3=some (.code f3) from rfl)]
    simp only [f3,csh,cw,cp,cq,rowsBy_length,rowsBy_takeAll,bytesOf_rows,go_sem,seval]
    all_goals simp
  · rw [if_neg hm] at cp cq
    generalize mayC v e=c at *
    rw [call_code F (show F 3=some (.code f3) from rfl)]
    simp only [f3,csh,cw,cp,cq,rowsBy_length,rowsBy_takeAll,bytesOf_rows,go_sem,seval]
    all_goals simp
end Go.Proofs.Ytcecojdeljbjoaa.Sx
namespace Go.Proofs.Ytcecojdeljbjoaa.Sx
open Go Go.RowKit Go.ChangeShapes Go.WideShapes Go.ChangeAt
set_option maxRecDepth 100000
theorem agg_of {t : TypeId} {n : Nat} {a : TV} (hagg : isAggB Try.prog t=true) (h : ArgShape Try.prog n t a) : ∃ ts,a=.agg ts∧Shape Try.prog n t ts:=by
  unfold ArgShape at h; rw [if_pos hagg] at h; exact h
theorem own : ownKnob Try.prog.godebug=none:=by kernel_rfl
theorem laidOut : laidOutB Try.prog=true:=by kernel_rfl
theorem rows_list {α : Type} {c : α→List TV} {S : List TV→Prop} {Q : α→Prop} (h : ∀ ts,S ts→∃ x,ts=c x∧Q x) : ∀ {rows : List (List TV)},(∀ r∈rows,S r)→∃ l : List α,rows=rowsBy c l∧∀ x∈l,Q x
  | [],_ => ⟨[],rfl,by simp⟩
  | r :: rows, hr => by
    obtain ⟨x,rfl,hx⟩:=h r (hr r (by simp))
    obtain ⟨l,rfl,hl⟩:=rows_list h (rows:=rows) fun q hq => hr q (by simp [hq])
    refine ⟨x :: l,rfl,fun y hy => ?_⟩
    rcases List.mem_cons.1 hy with rfl | hy
    · exact hx
    · exact hl y hy
theorem shInt {n : Nat} {ts : List TV} (h : Shape Try.prog (n+1) 3 ts) : ∃ a,ts=[.int .i64 a]∧IntKind.i64.has a:=by
  unfold Shape at h; rw [Try.underlying3] at h; exact h
theorem shStr {n : Nat} {ts : List TV} (h : Shape Try.prog (n+1) 9 ts) : ∃ a : ByteArray,ts=[.str a]∧a.size≤140737488351232:=by
  unfold Shape at h; rw [Try.underlying9] at h
  obtain ⟨a,rfl,_,ha⟩:=h; exact ⟨a,rfl,ha⟩
theorem shID {n : Nat} {ts : List TV} (h : Shape Try.prog (n+2) 34 ts) : ∃ x : ID,ts=ID.c x:=by
  unfold Shape at h; rw [Try.underlying34] at h
  obtain ⟨x,r,rfl,h1,y,r',rfl,h2,rfl⟩:=h
  obtain ⟨a,rfl,ha⟩:=shInt h1
  obtain ⟨b,rfl,hb⟩:=shInt h2
  exact ⟨⟨a,b⟩,rfl⟩
theorem shDart {n : Nat} {ts : List TV} (h : Shape Try.prog (n+3) 56 ts) : ∃ x : Dart,ts=Dart.c x:=by
  unfold Shape at h; rw [Try.underlying56] at h
  obtain ⟨x,r,rfl,h1,y,r',rfl,h2,rfl⟩:=h
  obtain ⟨e,rfl⟩:=shID h1
  obtain ⟨c,rfl,_⟩:=shInt h2
  exact ⟨⟨e,c⟩,rfl⟩
theorem shDarts {n : Nat} {ts : List TV} (h : Shape Try.prog (n+4) 37 ts) : ∃ l : List Dart,ts=[.sl .shared 3 (rowsBy Dart.c l)]∧Fits l:=by
  unfold Shape at h; rw [Try.underlying37] at h
  obtain ⟨rows,rfl,⟨_,hb⟩,hr⟩:=h
  obtain ⟨l,rfl,_⟩:=rows_list (c:=Dart.c) (Q:=fun _ => True) (fun ts h => (shDart h).imp fun _ h => ⟨h,trivial⟩) hr
  refine ⟨l,rfl,Fits.of ?_⟩
  rw [rowsBy_length,show Try.prog.bytesOf 56=24 by kernel_rfl] at hb
  simp only [reachBytes] at hb
  omega
def VxOk (v : Vx) : Prop:=Fits v.ring∧v.label.size≤9223372036854775807
def EdOk (v : Ed) : Prop:=v.label.size≤9223372036854775807
theorem shVx {n : Nat} {ts : List TV} (h : Shape Try.prog (n+5) 39 ts) : ∃ x : Vx,ts=Vx.c x∧VxOk x:=by
  unfold Shape at h; rw [Try.underlying39] at h
  obtain ⟨x,r,rfl,h1,y,r',rfl,h2,z,r'',rfl,h3,u,r3,rfl,h4,rfl⟩:=h
  obtain ⟨e,rfl⟩:=shID h1
  obtain ⟨l,rfl,hl⟩:=shDarts h2
  obtain ⟨s,rfl,hs⟩:=shStr h3
  obtain ⟨c,rfl,_⟩:=shInt h4
  exact ⟨⟨e,l,s,c⟩,rfl,hl,Nat.le_trans hs (by decide)⟩
theorem shEd {n : Nat} {ts : List TV} (h : Shape Try.prog (n+3) 36 ts) : ∃ x : Ed,ts=Ed.c x∧EdOk x:=by
  unfold Shape at h; rw [Try.underlying36] at h
  obtain ⟨x,r,rfl,h1,z,r'',rfl,h3,u,r3,rfl,h4,rfl⟩:=h
  obtain ⟨e,rfl⟩:=shID h1
  obtain ⟨s,rfl,hs⟩:=shStr h3
  obtain ⟨c,rfl,_⟩:=shInt h4
  exact ⟨⟨e,s,c⟩,rfl,Nat.le_trans hs (by decide)⟩
theorem shVxs {n : Nat} {ts : List TV} (h : Shape Try.prog (n+6) 22 ts) : ∃ l : List Vx,ts=[.sl .shared 5 (rowsBy Vx.c l)]∧∀ v∈l,VxOk v:=by
  unfold Shape at h; rw [Try.underlying22] at h
  obtain ⟨rows,rfl,_,hr⟩:=h
  obtain ⟨l,rfl,hl⟩:=rows_list (c:=Vx.c) (fun ts h => shVx h) hr
  exact ⟨l,rfl,hl⟩
theorem shEds {n : Nat} {ts : List TV} (h : Shape Try.prog (n+4) 23 ts) : ∃ l : List Ed,ts=[.sl .shared 4 (rowsBy Ed.c l)]∧∀ v∈l,EdOk v:=by
  unfold Shape at h; rw [Try.underlying23] at h
  obtain ⟨rows,rfl,_,hr⟩:=h
  obtain ⟨l,rfl,hl⟩:=rows_list (c:=Ed.c) (fun ts h => shEd h) hr
  exact ⟨l,rfl,hl⟩
theorem shDiagram {n : Nat} {ts : List TV} (h : Shape Try.prog (n+7) 25 ts) : ∃ (vs : List Vx) (es : List Ed),ts=[.sl .shared 5 (rowsBy Vx.c vs),.sl .shared 4 (rowsBy Ed.c es)]∧FitsR vs∧FitsL vs es:=by
  unfold Shape at h; rw [Try.underlying25] at h
  obtain ⟨x,r,rfl,h1,z,r'',rfl,h3,rfl⟩:=h
  obtain ⟨d,rfl,hd⟩:=shVxs h1
  obtain ⟨e,rfl,he⟩:=shEds h3
  exact ⟨d,e,rfl,fun v hv => (hd v hv).1,fun v hv => (hd v hv).2,he⟩
end Go.Proofs.Ytcecojdeljbjoaa.Sx
