/- What the functions of rings come to. Vertices,edges,darts that are gone: what is found there. What the reference's functions of rings come to. What is wrong with a diagram. Maps from darts,as sets. Rings in plain Lean: what the program's map says is what the reference counts. What is wrong with a diagram: the program's answer. What is wrong with a diagram: the reference's answer. Diagrams that are well formed,in plain words. Rings in plain Lean: rotations,and what does not hang on them. How often darts stand in rings; diagrams with the same darts. Cycles of a function on a finite row,in plain Lean: orbits,how many cycles there are,and how that changes as two points are taken out. -/
import Derived.Test.YtcecojdeljbjoaaSxG6
import Derived.Test.YtcecojdeljbjoaaSxG7
set_option maxRecDepth 100000
set_option linter.unusedSimpArgs false
set_option linter.unusedVariables false
namespace Go.Proofs.Ytcecojdeljbjoaa.Sx
open Go
theorem i_Index_Dart (l : List Dart) (x : Dart) (hl : Fits l) : call F 77 [.sl .shared 3 (rowsBy Dart.c l),.agg [.int .i64 x.e.s,.int .i64 x.e.n,.int .i64 x.d]]=some (.int .i64 (idx l x)):=by
  have hl:=hl.le
  have S : ∀ r,E (cs F) 0 f77_b1 (⟨(upd (upd (upd (upd Sx.e0 8 (.v (.int .i64 ((l.idxOf x : Int))))) 7 (.v (.int .i64 ((l.length : Int))))) 3 (.p 3 0)) 0 (.v (.sl .shared 3 (rowsBy Dart.c l)))),(upd Sx.h0 3 (some (.var false [(.v (.int .i64 (x.e.s))),(.v (.int .i64 (x.e.n))),(.v (.int .i64 (x.d)))])))⟩ : St)=some r→r.1≠.norm →
      E (cs F) 0 f77_l1 (⟨(upd (upd (upd (upd Sx.e0 8 (.v (.int .i64 (0)))) 7 (.v (.int .i64 ((l.length : Int))))) 3 (.p 3 0)) 0 (.v (.sl .shared 3 (rowsBy Dart.c l)))),(upd Sx.h0 3 (some (.var false [(.v (.int .i64 (x.e.s))),(.v (.int .i64 (x.e.n))),(.v (.int .i64 (x.d)))])))⟩ : St)=some r:=by
    intro r hf hr
    refine loop_to (b:=f77_b1) (fun i => (⟨(upd (upd (upd (upd Sx.e0 8 (.v (.int .i64 ((i : Int))))) 7 (.v (.int .i64 ((l.length : Int))))) 3 (.p 3 0)) 0 (.v (.sl .shared 3 (rowsBy Dart.c l)))),(upd Sx.h0 3 (some (.var false [(.v (.int .i64 (x.e.s))),(.v (.int .i64 (x.e.n))),(.v (.int .i64 (x.d)))])))⟩ : St)) (l.idxOf x) ?_ hf hr
    intro i hi
    have h1 : i < l.length:=Nat.lt_of_lt_of_le hi (idxOf_le l x)
    have hne:=dec_f (Ne.symm (idxOf_ne hi h1))
    simp only [f77_b1,dec_lt h1,rowsBy_get Dart.c h1,Dart.c,hne,wrap_succ h1 (show l.length≤9223372036854775807 by omega),go_sem,seval]
  by_cases hm : x∈l
  · obtain ⟨hlt, he⟩ := idxOf_at hm
    have hd:=dec_t he.symm
    have:=S _ (by simp only [f77_b1,dec_lt hlt,rowsBy_get Dart.c hlt,Dart.c,hd,go_sem,seval]; rfl) (by simp)
    rw [idx_pos hm]
    rw [call_code F (show F 77=some (.code f77) from rfl)]
    simp only [f77,this,go_sem,seval]
  · have e := idxOf_not hm
    have := S _ (by rw [e]
                    simp only [f77_b1,dec_ge (Nat.le_refl l.length),go_sem,seval]
                    rfl) (by simp)
    rw [idx_neg hm]
    rw [call_code F (show F 77=some (.code f77) from rfl)]
    simp only [f77,this,go_sem,seval]
theorem c_Index_Dart (l : List Dart) (a b c : Int) (hl : Fits l) : call F 77 [.sl .shared 3 (rowsBy Dart.c l),.agg [.int .i64 a,.int .i64 b,.int .i64 c]]=some (.int .i64 (idx l ⟨⟨a,b⟩,c⟩)):=i_Index_Dart l ⟨⟨a,b⟩,c⟩ hl
theorem i_r03_Index (l : List Dart) (x : Dart) (hl : Fits l) : call F 89 [.sl .shared 3 (rowsBy Dart.c l),.agg [.int .i64 x.e.s,.int .i64 x.e.n,.int .i64 x.d]]=some (.int .i64 (idx l x)):=by
  have hl:=hl.le
  have S : ∀ r,E (cs F) 0 f89_b1 (⟨(upd (upd (upd Sx.e0 5 (.v (.int .i64 ((l.idxOf x : Int))))) 3 (.p 3 0)) 0 (.v (.sl .shared 3 (rowsBy Dart.c l)))),(upd Sx.h0 3 (some (.var false [(.v (.int .i64 (x.e.s))),(.v (.int .i64 (x.e.n))),(.v (.int .i64 (x.d)))])))⟩ : St)=some r→r.1≠.norm →
      E (cs F) 0 f89_l1 (⟨(upd (upd (upd Sx.e0 5 (.v (.int .i64 (0)))) 3 (.p 3 0)) 0 (.v (.sl .shared 3 (rowsBy Dart.c l)))),(upd Sx.h0 3 (some (.var false [(.v (.int .i64 (x.e.s))),(.v (.int .i64 (x.e.n))),(.v (.int .i64 (x.d)))])))⟩ : St)=some r:=by
    intro r hf hr
    refine loop_to (b:=f89_b1) (fun i => (⟨(upd (upd (upd Sx.e0 5 (.v (.int .i64 ((i : Int))))) 3 (.p 3 0)) 0 (.v (.sl .shared 3 (rowsBy Dart.c l)))),(upd Sx.h0 3 (some (.var false [(.v (.int .i64 (x.e.s))),(.v (.int .i64 (x.e.n))),(.v (.int .i64 (x.d)))])))⟩ : St)) (l.idxOf x) ?_ hf hr
    intro i hi
    have h1 : i < l.length:=Nat.lt_of_lt_of_le hi (idxOf_le l x)
    have hne:=dec_f (idxOf_ne hi h1)
    simp only [f89_b1,dec_lt h1,rowsBy_get Dart.c h1,Dart.c,hne,wrap_succ h1 (show l.length≤9223372036854775807 by omega),go_sem,seval]
  by_cases hm : x∈l
  · obtain ⟨hlt, he⟩ := idxOf_at hm
    have hd:=dec_t he
    have:=S _ (by simp only [f89_b1,dec_lt hlt,rowsBy_get Dart.c hlt,Dart.c,hd,go_sem,seval]; rfl) (by simp)
    rw [idx_pos hm]
    rw [call_code F (show F 89=some (.code f89) from rfl)]
    simp only [f89,this,go_sem,seval]
  · have e := idxOf_not hm
    have := S _ (by rw [e]
                    simp only [f89_b1,dec_ge (Nat.le_refl l.length),go_sem,seval]
                    rfl) (by simp)
    rw [idx_neg hm]
    rw [call_code F (show F 89=some (.code f89) from rfl)]
    simp only [f89,this,go_sem,seval]
theorem c_Contains_Dart (l : List Dart) (a b c : Int) (hl : Fits l) : call F 112 [.sl .shared 3 (rowsBy Dart.c l),.agg [.int .i64 a,.int .i64 b,.int .i64 c]]=some (.bool (decide (⟨⟨a,b⟩,c⟩∈l))):=by
  rw [call_code F (show F 112=some (.code f112) from rfl)]
  simp only [f112,c_Index_Dart l a b c hl,go_sem,seval]
  rw [idx_ge0]
def minFrom (x : Dart) (l : List Dart) : Dart:=l.foldl (fun m y => if ordD y m < 0 then y else m) x
theorem minFrom_snoc (x : Dart) (l : List Dart) (y : Dart) : minFrom x (l++[y])=if ordD y (minFrom x l) < 0 then y else minFrom x l:=by unfold minFrom; rw [List.foldl_append]; rfl
def minD : List Dart→Dart
  | [] => Dart0
  | x :: l => minFrom x l
theorem c_MinFunc (x : Dart) (l : List Dart) (hl : Fits (x :: l)) : call F 78 [.sl .shared 3 (rowsBy Dart.c (x :: l)),.fn 79 []]=some (.agg [.int .i64 (minD (x :: l)).e.s,.int .i64 (minD (x :: l)).e.n,.int .i64 (minD (x :: l)).d]):=by
  have hl:=hl.le
  simp only [List.length_cons] at hl
  have h0 : decide (((l.length+1 : Nat) : Int) < 1)=false:=by simp; omega
  have lp : E (cs F) 0 f78_l1 (⟨(upd (upd (upd (upd (upd Sx.e0 6 (.v (.int .i64 (1)))) 5 (.p 5 0)) 4 (.p 4 0)) 1 (.v (.fn 79 []))) 0 (.v (.sl .shared 3 (rowsBy Dart.c (x :: l))))),(upd (upd Sx.h0 5 (some (.var false [(.v (.int .i64 (x.e.s))),(.v (.int .i64 (x.e.n))),(.v (.int .i64 (x.d)))]))) 4 (some (.var false [(.v (.int .i64 (0))),(.v (.int .i64 (0))),(.v (.int .i64 (0)))])))⟩ : St) =
      some (.exit 0,(⟨(upd (upd Sx.e0 5 (.p 5 0)) 4 (.p 4 0)),(upd (upd Sx.h0 5 (some (.var false [(.v (.int .i64 ((minD (x :: l)).e.s))),(.v (.int .i64 ((minD (x :: l)).e.n))),(.v (.int .i64 ((minD (x :: l)).d)))]))) 4 (some (.var false [(.v (.int .i64 (0))),(.v (.int .i64 (0))),(.v (.int .i64 (0)))])))⟩ : St)):=by
    refine loop_to (b:=f78_b1) (fun i => (⟨(upd (upd (upd (upd (upd Sx.e0 6 (.v (.int .i64 (((i+1 : Nat) : Int))))) 5 (.p 5 0)) 4 (.p 4 0)) 1 (.v (.fn 79 []))) 0 (.v (.sl .shared 3 (rowsBy Dart.c (x :: l))))),(upd (upd Sx.h0 5 (some (.var false [(.v (.int .i64 ((minFrom x (l.take i)).e.s))),(.v (.int .i64 ((minFrom x (l.take i)).e.n))),(.v (.int .i64 ((minFrom x (l.take i)).d)))]))) 4 (some (.var false [(.v (.int .i64 (0))),(.v (.int .i64 (0))),(.v (.int .i64 (0)))])))⟩ : St)) l.length ?_ ?_ (by simp)
    · intro i hi
      have h1 : i+1 < (x :: l).length:=by simp; omega
      have hd : decide (((i+1 : Nat) : Int) < ((l.length+1 : Nat) : Int))=true:=by simp; omega
      have hg:=rowsBy_get Dart.c hi
      have hw : IntKind.i64.wrap (((i+1 : Nat) : Int)+1)=((i+1+1 : Nat) : Int):=by rw [wrap64 (by omega) (by omega)]; omega
      have hs : minFrom x (l.take (i+1))=if ordD l[i] (minFrom x (l.take i)) < 0 then l[i] else minFrom x (l.take i):=by rw [List.take_succ_eq_append_getElem hi,minFrom_snoc]
      rw [hs]
      cases hc : decide (ordD l[i] (minFrom x (l.take i)) < 0) with
      | true =>
        have hc':=of_decide_eq_true hc
        rw [if_pos hc']
        simp only [f78_b1,rowsBy,hd,hg,Dart.c,hw,c_ident_OrderDart,hc,go_sem,seval]
      | false =>
        have hc':=of_decide_eq_false hc
        rw [if_neg hc']
        simp only [f78_b1,rowsBy,hd,hg,Dart.c,hw,c_ident_OrderDart,hc,go_sem,seval]
    · have hd : decide (((l.length + 1 : Nat) : Int) < ((l.length + 1 : Nat) : Int)) = false := by simp
      simp only [f78_b1,rowsBy,hd,minD,go_sem,seval]
  simp only [rowsBy,Dart.c] at lp
  rw [call_code F (show F 78=some (.code f78) from rfl)]
  simp only [f78,rowsBy,Dart.c,h0,lp,go_sem,seval]
theorem c_Grow_Dart (n : Int) (hn : 0≤n) (h1 : n≤5864062014634) : call F 93 [.sl (.tight 56) 3 [],.int .i64 n]=some (.sl (.own 56) 3 []):=by
  have k0 : IntKind.i64.wrap 0=0:=rfl
  have k1 : decide (n < 0)=false:=by simp; omega
  have k2 : IntKind.i64.wrap (n - 0)=n:=by rw [Int.sub_zero]; exact wrap64 (by omega) (by omega)
  have k3 : n * 24≤140737488355328:=by omega
  cases hp : decide (n > 0)
  · rw [call_code F (show F 93 = some (.code f93) from rfl)]
    simp only [f93,k0,k1,k2,hp,go_sem,seval]
  · rw [call_code F (show F 93 = some (.code f93) from rfl)]
    simp only [f93,k0,k1,k2,k3,hn,hp,go_sem,seval]
theorem flat_snoc {α : Type} {l : List (List α)} {i : Nat} (hi : i < l.length) : (l.take (i+1)).flatten=(l.take i).flatten++l[i]:=by
  rw [List.take_succ_eq_append_getElem hi,List.flatten_append,List.flatten_cons,List.flatten_nil,List.append_nil]
theorem c_Concat_Dart (l : List (List Dart)) (hl : Fits l.flatten) (hp : Fits l) : call F 80 [.sl .shared 1 (rowsBy (fun p => [TV.sl .shared 3 (rowsBy Dart.c p)]) l)]=some (.sl (.own 56) 3 (rowsBy Dart.c l.flatten)):=by
  have hl:=hl.le
  have hp:=hp.le
  have l1 : E (cs F) 0 f80_l1 (⟨(upd (upd (upd (upd (upd Sx.e0 11 (.v (.int .i64 (0)))) 10 (.v (.int .i64 ((l.length : Int))))) 9 (.v (.sl .shared 1 (rowsBy (fun p => [.sl .shared 3 (rowsBy Dart.c p)]) l)))) 3 (.v (.int .i64 (0)))) 0 (.v (.sl .shared 1 (rowsBy (fun p => [.sl .shared 3 (rowsBy Dart.c p)]) l)))),Sx.h0⟩ : St) =
      some (.exit 0,(⟨(upd (upd Sx.e0 3 (.v (.int .i64 ((l.flatten.length : Int))))) 0 (.v (.sl .shared 1 (rowsBy (fun p => [.sl .shared 3 (rowsBy Dart.c p)]) l)))),Sx.h0⟩ : St)):=by
    refine loop_to (b:=f80_b1) (fun i => (⟨(upd (upd (upd (upd (upd Sx.e0 11 (.v (.int .i64 ((i : Int))))) 10 (.v (.int .i64 ((l.length : Int))))) 9 (.v (.sl .shared 1 (rowsBy (fun p => [.sl .shared 3 (rowsBy Dart.c p)]) l)))) 3 (.v (.int .i64 (((l.take i).flatten.length : Int))))) 0 (.v (.sl .shared 1 (rowsBy (fun p => [.sl .shared 3 (rowsBy Dart.c p)]) l)))),Sx.h0⟩ : St)) l.length ?_ ?_ (by simp)
    · intro i hi
      have hs : (l.take (i+1)).flatten.length=(l.take i).flatten.length+l[i].length:=by rw [flat_snoc hi,List.length_append]
      have hb : (l.take (i+1)).flatten.length≤l.flatten.length:=by
        have e:=congrArg (fun x => x.flatten.length) (List.take_append_drop (i+1) l)
        simp only [List.flatten_append,List.length_append] at e
        omega
      have hw : IntKind.i64.wrap (((l.take i).flatten.length : Int)+(l[i].length : Int))=((l.take (i+1)).flatten.length : Int):=by rw [wrap64 (by omega) (by omega)]; omega
      have hn : decide (((l.take (i+1)).flatten.length : Int) < 0)=false:=by simp
      simp only [f80_b1,dec_lt hi,rowsBy_get (fun p => [TV.sl .shared 3 (rowsBy Dart.c p)]) hi,hw,hn,wrap_succ hi (show l.length≤9223372036854775807 by omega),go_sem,seval]
    · simp only [f80_b1,dec_ge (Nat.le_refl l.length),go_sem,seval]
  have gr:=c_Grow_Dart (l.flatten.length : Int) (by omega) (by omega)
  have l2 : E (cs F) 0 f80_l2 (⟨(upd (upd (upd (upd Sx.e0 27 (.v (.int .i64 (0)))) 26 (.v (.int .i64 ((l.length : Int))))) 25 (.v (.sl .shared 1 (rowsBy (fun p => [.sl .shared 3 (rowsBy Dart.c p)]) l)))) 6 (.s 6 0 0)),(upd Sx.h0 6 (some (.arr false 56 3 [])))⟩ : St) =
      some (.exit 2,(⟨(upd Sx.e0 6 (.s 6 0 l.flatten.length)),(upd Sx.h0 6 (some (.arr false 56 3 (rowsBy Dart.c l.flatten))))⟩ : St)):=by
    refine loop_to (b:=f80_b2) (fun i => (⟨(upd (upd (upd (upd Sx.e0 27 (.v (.int .i64 ((i : Int))))) 26 (.v (.int .i64 ((l.length : Int))))) 25 (.v (.sl .shared 1 (rowsBy (fun p => [.sl .shared 3 (rowsBy Dart.c p)]) l)))) 6 (.s 6 0 (l.take i).flatten.length)),(upd Sx.h0 6 (some (.arr false 56 3 (rowsBy Dart.c (l.take i).flatten))))⟩ : St)) l.length ?_ ?_ (by simp)
    · intro i hi
      have hs:=flat_snoc hi
      have hb : (l.take (i+1)).flatten.length≤l.flatten.length:=by
        have e:=congrArg (fun x => x.flatten.length) (List.take_append_drop (i+1) l)
        simp only [List.flatten_append,List.length_append] at e
        omega
      have hln : (l.take (i+1)).flatten.length=(l.take i).flatten.length+l[i].length:=by rw [hs,List.length_append]
      have hby : ((l.take i).flatten.length+l[i].length) * 24≤140737488355328:=by omega
      rw [hln,hs]
      simp only [f80_b2,dec_lt hi,rowsBy_get (fun p => [TV.sl .shared 3 (rowsBy Dart.c p)]) hi,hby,wrap_succ hi (show l.length≤9223372036854775807 by omega),go_sem,seval]
    · simp only [f80_b2,dec_ge (Nat.le_refl l.length),go_sem,seval]
  rw [call_code F (show F 80=some (.code f80) from rfl)]
  simp only [f80,l1,gr,l2,go_sem,seval]
theorem c_Concat2 (p q : List Dart) (h : Fits (p++q)) : call F 80 [.sl .shared 1 [[.sl .shared 3 (rowsBy Dart.c p)],[.sl .shared 3 (rowsBy Dart.c q)]]]=some (.sl (.own 56) 3 (rowsBy Dart.c (p++q))):=by
  have:=c_Concat_Dart [p,q] (by simpa using h) (by unfold Fits; simp)
  simpa [rowsBy] using this
def turn (l : List Dart) : List Dart:=l.drop (l.idxOf (minD l))++l.take (l.idxOf (minD l))
theorem minFrom_mem (x : Dart) (l : List Dart) : minFrom x l∈x :: l:=by
  unfold minFrom
  induction l generalizing x with
  | nil => simp
  | cons y l ih =>
    rw [List.foldl_cons]
    have:=ih (if ordD y x < 0 then y else x)
    split at this<;>rename_i h<;>simp only [List.mem_cons] at this ⊢<;>(simp only [h,if_true,if_false]; rcases this with h | h<;>simp [h])
theorem minD_mem {l : List Dart} (h : l≠[]) : minD l∈l:=by
  cases l with
  | nil => exact absurd rfl h
  | cons x l => exact minFrom_mem x l
theorem turn_length (l : List Dart) : (turn l).length=l.length:=by
  unfold turn
  simp only [List.length_append,List.length_drop,List.length_take]
  have:=idxOf_le l (minD l)
  omega
@[go_sem] theorem fits_turn {l : List Dart} (h : Fits l) : Fits (turn l):=by unfold Fits; rw [turn_length]; exact h
theorem c_ring_Turn (l : List Dart) (hl : Fits l) : call F 62 [.sl .shared 3 (rowsBy Dart.c l)]=some (.sl (.own 56) 3 (rowsBy Dart.c (turn l))):=by
  cases l with
  | nil =>
    rw [call_code F (show F 62=some (.code f62) from rfl)]
    simp only [f62,turn,rowsBy,go_sem,seval]
  | cons x l =>
    have h1 : decide (((l.length+1 : Nat) : Int)=0)=false:=by simp; omega
    have mf:=c_MinFunc x l hl
    have hm : minD (x :: l)∈x :: l:=minD_mem (by simp)
    have ix:=i_Index_Dart (x :: l) (minD (x :: l)) hl
    rw [idx_pos hm] at ix
    have hlt:=List.idxOf_lt_length_iff.2 hm
    have hle : ((List.idxOf (minD (x :: l)) (x :: l) : Nat) : Int)≤(((x :: l).length : Nat) : Int):=by omega
    have cc:=c_Concat2 ((x :: l).drop ((x :: l).idxOf (minD (x :: l)))) ((x :: l).take ((x :: l).idxOf (minD (x :: l)))) (by unfold Fits; have:=hl.le; simp only [List.length_append,List.length_drop,List.length_take]; omega)
    generalize hL : x :: l=L at *
    have hlen : l.length+1=L.length:=by rw [← hL]; rfl
    rw [hlen] at h1
    rw [call_code F (show F 62=some (.code f62) from rfl)]
    simp only [f62,h1,mf,ix,hle,cc,go_sem,seval]
    rfl
def byD (l : List Dart) (d : Dart) (n : Nat) : Dart:=if d∈l then l.getD ((l.idxOf d+n) % l.length) Dart0 else Dart0
def nextD (l : List Dart) (d : Dart) : Dart:=byD l d 1
def prevD (l : List Dart) (d : Dart) : Dart:=byD l d (l.length - 1)
theorem tmod_nat {a b : Nat} : ((a : Int)).tmod (b : Int)=((a % b : Nat) : Int):=by
  rw [Int.tmod_eq_emod_of_nonneg (by omega)]; omega
def dartT (x : Dart) : TV:=.agg [.int .i64 x.e.s,.int .i64 x.e.n,.int .i64 x.d]
theorem i_ring_step (l : List Dart) (x : Dart) (n : Nat) (hn : n≤5864062014634) (hl : Fits l) : call F 114 [.sl .shared 3 (rowsBy Dart.c l),.agg [.int .i64 x.e.s,.int .i64 x.e.n,.int .i64 x.d],.int .i64 n]=some (.tup [dartT (byD l x n),.bool (decide (x∈l))]):=by
  have ix:=i_Index_Dart l x hl
  have hl:=hl.le
  by_cases hm : x∈l
  · rw [idx_pos hm] at ix
    obtain ⟨hlt,_⟩:=idxOf_at hm
    have h1 : decide (((l.idxOf x : Nat) : Int) < 0)=false:=by simp
    have h2 : IntKind.i64.wrap (((l.idxOf x : Nat) : Int)+(n : Int))=((l.idxOf x+n : Nat) : Int):=by rw [wrap64 (by omega) (by omega)]; omega
    have h3 : ¬ ((l.length : Int)=0):=by omega
    have h4 : (l.idxOf x+n) % l.length < l.length:=Nat.mod_lt _ (by omega)
    have h5 : (((l.idxOf x+n) % l.length : Nat) : Int) < (l.length : Int):=by omega
    have h6 : byD l x n=l[(l.idxOf x+n) % l.length]:=by unfold byD; rw [if_pos hm]; simp [h4]
    rw [dec_t hm,h6]
    rw [call_code F (show F 114=some (.code f114) from rfl)]
    simp only [f114,ix,h1,h2,h3,tmod_nat,rowsBy_get Dart.c h4,Dart.c,dartT,go_sem,seval]
  · rw [idx_neg hm] at ix
    have h6 : byD l x n=Dart0:=by unfold byD; rw [if_neg hm]
    rw [dec_f hm,h6]
    rw [call_code F (show F 114=some (.code f114) from rfl)]
    simp only [f114,ix,dartT,Dart0,ID0,go_sem,seval]
theorem i_ring_Next (l : List Dart) (x : Dart) (hl : Fits l) : call F 113 [.sl .shared 3 (rowsBy Dart.c l),.agg [.int .i64 x.e.s,.int .i64 x.e.n,.int .i64 x.d]]=some (.tup [dartT (nextD l x),.bool (decide (x∈l))]):=by
  have st:=i_ring_step l x 1 (by omega) hl
  simp only [dartT,Int.cast_ofNat_Int] at st
  rw [call_code F (show F 113=some (.code f113) from rfl)]
  simp only [f113,st,dartT,nextD,go_sem,seval]
theorem i_r03_Next (l : List Dart) (x : Dart) (hl : Fits l) : call F 111 [.sl .shared 3 (rowsBy Dart.c l),.agg [.int .i64 x.e.s,.int .i64 x.e.n,.int .i64 x.d]]=some (.tup [dartT (nextD l x),.bool (decide (x∈l))]):=by
  have ix:=i_r03_Index l x hl
  have hl:=hl.le
  by_cases hm : x∈l
  · rw [idx_pos hm] at ix
    obtain ⟨hlt,_⟩:=idxOf_at hm
    have h1 : decide (((l.idxOf x : Nat) : Int) < 0)=false:=by simp
    have h2 : IntKind.i64.wrap (((l.idxOf x : Nat) : Int)+1)=((l.idxOf x+1 : Nat) : Int):=by rw [wrap64 (by omega) (by omega)]; omega
    have h3 : ¬ ((l.length : Int)=0):=by omega
    have h4 : (l.idxOf x+1) % l.length < l.length:=Nat.mod_lt _ (by omega)
    have h5 : (((l.idxOf x+1) % l.length : Nat) : Int) < (l.length : Int):=by omega
    have h6 : nextD l x=l[(l.idxOf x+1) % l.length]:=by unfold nextD byD; rw [if_pos hm]; simp [h4]
    rw [dec_t hm,h6]
    rw [call_code F (show F 111=some (.code f111) from rfl)]
    simp only [f111,ix,h1,h2,h3,tmod_nat,rowsBy_get Dart.c h4,Dart.c,dartT,go_sem,seval]
  · rw [idx_neg hm] at ix
    have h6 : nextD l x=Dart0:=by unfold nextD byD; rw [if_neg hm]
    rw [dec_f hm,h6]
    rw [call_code F (show F 111=some (.code f111) from rfl)]
    simp only [f111,ix,dartT,Dart0,ID0,go_sem,seval]
theorem first_diff {α : Type} [DecidableEq α] : ∀ (l m : List α),l.length=m.length→l≠m→∃ k,∃ (h1 : k < l.length) (h2 : k < m.length),(∀ i (h : i < k),l[i]=m[i])∧l[k]≠m[k]
  | [],[],_,h => absurd rfl h
  | [],_ :: _,h,_ => by simp at h
  | _ :: _,[],h,_ => by simp at h
  | a :: l, b :: m, hl, hne => by
    by_cases hab : a=b
    · subst hab
      obtain ⟨k,h1,h2,h3,h4⟩:=first_diff l m (by simpa using hl) (fun e => hne (by rw [e]))
      refine ⟨k+1,by simp; omega,by simp; omega,fun i hi => ?_,by simpa using h4⟩
      cases i with
      | zero => rfl
      | succ i => simpa using h3 i (by omega)
    · exact ⟨0,by simp,by simp,fun i hi => absurd hi (Nat.not_lt_zero _),by simpa using hab⟩
@[go_sem] theorem darts_snoc (l : List Dart) (x : Dart) : rowsBy Dart.c l++[[.int .i64 x.e.s,.int .i64 x.e.n,.int .i64 x.d]]=rowsBy Dart.c (l++[x]):=rowsBy_snoc Dart.c l x
@[go_sem] theorem darts_one (x : Dart) : [[.int .i64 x.e.s,.int .i64 x.e.n,.int .i64 x.d]]=rowsBy Dart.c [x]:=rfl
theorem len_eq {n m : Nat} (h : n=m) : decide (¬ ((n : Int)=(m : Int)))=false:=by simp; omega
theorem len_ne {n m : Nat} (h : n≠m) : decide (¬ ((n : Int)=(m : Int)))=true:=by simp; omega
theorem c_Equal_Dart (l m : List Dart) (hl : Fits l) : call F 61 [.sl .shared 3 (rowsBy Dart.c l),.sl .shared 3 (rowsBy Dart.c m)]=some (.bool (decide (l=m))):=by
  have hl:=hl.le
  by_cases hlen : l.length=m.length
  · have he := len_eq hlen
    have S : ∀ (k : Nat) (hk : k≤l.length) (r : Ex × St),(∀ i (h : i < k) (h1 : i < l.length) (h2 : i < m.length),l[i]=m[i]) →
        E (cs F) 0 f61_b1 (⟨(upd (upd (upd (upd Sx.e0 13 (.v (.int .i64 ((k : Int))))) 12 (.v (.int .i64 ((l.length : Int))))) 1 (.v (.sl .shared 3 (rowsBy Dart.c m)))) 0 (.v (.sl .shared 3 (rowsBy Dart.c l)))),Sx.h0⟩ : St)=some r→r.1≠.norm →
        E (cs F) 0 f61_l1 (⟨(upd (upd (upd (upd Sx.e0 13 (.v (.int .i64 (0)))) 12 (.v (.int .i64 ((l.length : Int))))) 1 (.v (.sl .shared 3 (rowsBy Dart.c m)))) 0 (.v (.sl .shared 3 (rowsBy Dart.c l)))),Sx.h0⟩ : St)=some r:=by
      intro k hk r hsame hf hr
      refine loop_to (b:=f61_b1) (fun i => (⟨(upd (upd (upd (upd Sx.e0 13 (.v (.int .i64 ((i : Int))))) 12 (.v (.int .i64 ((l.length : Int))))) 1 (.v (.sl .shared 3 (rowsBy Dart.c m)))) 0 (.v (.sl .shared 3 (rowsBy Dart.c l)))),Sx.h0⟩ : St)) k ?_ hf hr
      intro i hi
      have h1 : i < l.length:=by omega
      have h2 : i < m.length:=by omega
      have hd:=dec_t (hsame i hi h1 h2)
      simp only [f61_b1,dec_lt h1,rowsBy_get Dart.c h1,rowsBy_get Dart.c h2,Dart.c,hd,wrap_succ h1 (show l.length≤9223372036854775807 by omega),go_sem,seval]
    by_cases hlm : l=m
    · have := S l.length (Nat.le_refl _) _ (fun i _ h1 h2 => by subst hlm; rfl) (by simp only [f61_b1, dec_ge (Nat.le_refl l.length), go_sem, seval]; rfl) (by simp)
      rw [dec_t hlm]
      rw [call_code F (show F 61=some (.code f61) from rfl)]
      simp only [f61,he,this,go_sem,seval]
    · obtain ⟨k, h1, h2, h3, h4⟩ := first_diff l m hlen hlm
      have hd:=dec_f h4
      have:=S k (by omega) _ (fun i hi _ _ => h3 i hi) (by simp only [f61_b1,dec_lt h1,rowsBy_get Dart.c h1,rowsBy_get Dart.c h2,Dart.c,hd,go_sem,seval]; rfl) (by simp)
      rw [dec_f hlm]
      rw [call_code F (show F 61=some (.code f61) from rfl)]
      simp only [f61,he,this,go_sem,seval]
  · have hlm : l ≠ m := fun e => hlen (by rw [e])
    have he:=len_ne hlen
    rw [dec_f hlm]
    rw [call_code F (show F 61=some (.code f61) from rfl)]
    simp only [f61,he,go_sem,seval]
theorem c_r03_Darts (l m : List Dart) (hl : Fits l) : call F 34 [.sl .shared 3 (rowsBy Dart.c l),.sl .shared 3 (rowsBy Dart.c m)]=some (.bool (decide (l=m))):=by
  have hl:=hl.le
  by_cases hlen : l.length=m.length
  · have he := len_eq hlen
    have S : ∀ (k : Nat) (hk : k≤l.length) (r : Ex × St),(∀ i (h : i < k) (h1 : i < l.length) (h2 : i < m.length),l[i]=m[i]) →
        E (cs F) 0 f34_b1 (⟨(upd (upd (upd Sx.e0 5 (.v (.int .i64 ((k : Int))))) 1 (.v (.sl .shared 3 (rowsBy Dart.c m)))) 0 (.v (.sl .shared 3 (rowsBy Dart.c l)))),Sx.h0⟩ : St)=some r→r.1≠.norm →
        E (cs F) 0 f34_l1 (⟨(upd (upd (upd Sx.e0 5 (.v (.int .i64 (0)))) 1 (.v (.sl .shared 3 (rowsBy Dart.c m)))) 0 (.v (.sl .shared 3 (rowsBy Dart.c l)))),Sx.h0⟩ : St)=some r:=by
      intro k hk r hsame hf hr
      refine loop_to (b:=f34_b1) (fun i => (⟨(upd (upd (upd Sx.e0 5 (.v (.int .i64 ((i : Int))))) 1 (.v (.sl .shared 3 (rowsBy Dart.c m)))) 0 (.v (.sl .shared 3 (rowsBy Dart.c l)))),Sx.h0⟩ : St)) k ?_ hf hr
      intro i hi
      have h1 : i < l.length:=by omega
      have h2 : i < m.length:=by omega
      have hd:=dec_t (hsame i hi h1 h2)
      simp only [f34_b1,dec_lt h1,rowsBy_get Dart.c h1,rowsBy_get Dart.c h2,Dart.c,hd,wrap_succ h1 (show l.length≤9223372036854775807 by omega),go_sem,seval]
    by_cases hlm : l=m
    · have := S l.length (Nat.le_refl _) _ (fun i _ h1 h2 => by subst hlm; rfl) (by simp only [f34_b1, dec_ge (Nat.le_refl l.length), go_sem, seval]; rfl) (by simp)
      rw [dec_t hlm]
      rw [call_code F (show F 34=some (.code f34) from rfl)]
      simp only [f34,he,this,go_sem,seval]
    · obtain ⟨k, h1, h2, h3, h4⟩ := first_diff l m hlen hlm
      have hd:=dec_f h4
      have:=S k (by omega) _ (fun i hi _ _ => h3 i hi) (by simp only [f34_b1,dec_lt h1,rowsBy_get Dart.c h1,rowsBy_get Dart.c h2,Dart.c,hd,go_sem,seval]; rfl) (by simp)
      rw [dec_f hlm]
      rw [call_code F (show F 34=some (.code f34) from rfl)]
      simp only [f34,he,this,go_sem,seval]
  · have hlm : l ≠ m := fun e => hlen (by rw [e])
    have he:=len_ne hlen
    rw [dec_f hlm]
    rw [call_code F (show F 34=some (.code f34) from rfl)]
    simp only [f34,he,go_sem,seval]
def kOf (l : List Dart) : Nat→Nat
  | 0 => 0
  | i+1 => if ordD (l.getD i Dart0) (l.getD (kOf l i) Dart0) < 0 then i else kOf l i
theorem kOf_lt (l : List Dart) : ∀ i,kOf l i≤i - 1
  | 0 => Nat.le_refl _
  | i + 1 => by
    have:=kOf_lt l i
    simp only [kOf]
    split<;>omega
theorem ordD_self (x : Dart) : ordD x x=0:=by unfold ordD; rw [if_pos rfl]
theorem minFrom_le (x : Dart) : ∀ (l : List Dart) (y : Dart),y∈x :: l→ordD (minFrom x l) y≤0:=by
  intro l
  induction l generalizing x with
  | nil =>
    intro y hy
    have : y=x:=by simpa using hy
    subst this
    unfold minFrom
    simp [ordD_self]
  | cons z l ih =>
    intro y hy
    have e : minFrom x (z :: l)=minFrom (if ordD z x < 0 then z else x) l:=rfl
    rw [e]
    have h1:=ih (if ordD z x < 0 then z else x)
    have h2:=h1 (if ordD z x < 0 then z else x) (by simp)
    rcases List.mem_cons.1 hy with rfl | hy
    · by_cases hz : ordD z y < 0
      · rw [if_pos hz] at h2 ⊢
        have a:=ordD_cases z y
        have b:=ordD_cases (minFrom z l) z
        have c:=ordD_cases (minFrom z l) y
        simp only [Dart.ext_iff'] at a b c
        omega
      · rw [if_neg hz] at h2 ⊢
        exact h2
    · rcases List.mem_cons.1 hy with rfl | hy
      · by_cases hz : ordD y x < 0
        · rw [if_pos hz] at h2 ⊢; exact h2
        · rw [if_neg hz] at h2 ⊢
          have a:=ordD_cases y x
          have b:=ordD_cases (minFrom x l) x
          have c:=ordD_cases (minFrom x l) y
          simp only [Dart.ext_iff'] at a b c
          omega
      · exact h1 y (by simp [hy])
theorem minD_le {l : List Dart} {y : Dart} (hy : y∈l) : ordD (minD l) y≤0:=by
  cases l with
  | nil => simp at hy
  | cons x l => exact minFrom_le x l y hy
theorem kOf_min (l : List Dart) : ∀ i,i < l.length→l.getD (kOf l (i+1)) Dart0=minD (l.take (i+1))∧(l.take (i+1)).idxOf (minD (l.take (i+1)))=kOf l (i+1)
  | 0, hi => by
    cases l with
    | nil => simp at hi
    | cons x l => simp [kOf,minD,minFrom,ordD_self]
  | i + 1, hi => by
    obtain ⟨h1,h2⟩:=kOf_min l i (by omega)
    have hlt:=kOf_lt l (i+1)
    have ht : l.take (i+1+1)=l.take (i+1)++[l[i+1]]:=by rw [List.take_succ_eq_append_getElem hi]
    have hne : l.take (i+1)≠[]:=by
      intro e
      have h3:=congrArg List.length e
      simp only [List.length_take,List.length_nil] at h3
      omega
    have hm : minD (l.take (i+1+1))=if ordD l[i+1] (minD (l.take (i+1))) < 0 then l[i+1] else minD (l.take (i+1)):=by
      rw [ht]
      cases hl : l.take (i+1) with
      | nil => exact absurd hl hne
      | cons x r => exact minFrom_snoc x r _
    have hg : l.getD (i+1) Dart0=l[i+1]:=by simp [hi]
    have hk : kOf l (i+1+1)=if ordD l[i+1] (minD (l.take (i+1))) < 0 then i+1 else kOf l (i+1):=by
      rw [← h1,← hg]; rfl
    rw [hm,hk]
    split
    · rename_i hlt'
      refine ⟨hg,?_⟩
      rw [ht]
      have hnot : l[i+1]∉l.take (i+1):=by
        intro hmem
        have a:=minD_le hmem
        have b:=ordD_cases l[i+1] (minD (l.take (i+1)))
        have c:=ordD_cases (minD (l.take (i+1))) l[i+1]
        simp only [Dart.ext_iff'] at b c
        omega
      rw [List.idxOf_append,if_neg hnot]
      simp
      omega
    · refine ⟨h1, ?_⟩
      rw [ht,List.idxOf_append,if_pos (minD_mem hne)]
      exact h2
end Go.Proofs.Ytcecojdeljbjoaa.Sx
namespace Go.Proofs.Ytcecojdeljbjoaa.Sx
open Go
structure Gn where
  d : Dart
  to : Dart
deriving DecidableEq
def Gn.c (g : Gn) : List TV:=[.int .i64 g.d.e.s,.int .i64 g.d.e.n,.int .i64 g.d.d,.int .i64 g.to.e.s,.int .i64 g.to.e.n,.int .i64 g.to.d]
def firstBy {α : Type} (p : α→Bool) (l : List α) : Option α:=l[l.findIdx p]?
theorem firstBy_none {α : Type} {p : α→Bool} {l : List α} (h : l.findIdx p=l.length) : firstBy p l=none:=by
  unfold firstBy; rw [h]; simp
theorem firstBy_some {α : Type} {p : α→Bool} {l : List α} (h : l.findIdx p < l.length) : firstBy p l=some l[l.findIdx p]:=by
  unfold firstBy; rw [List.getElem?_eq_getElem h]
theorem findIdx_cases {α : Type} (p : α→Bool) (l : List α) : l.findIdx p=l.length∨∃ h : l.findIdx p < l.length,p l[l.findIdx p]=true:=by
  rcases Nat.lt_or_ge (l.findIdx p) l.length with h | h
  · exact .inr ⟨h,List.findIdx_getElem⟩
  · exact .inl (Nat.le_antisymm List.findIdx_le_length h)
theorem findIdx_not {α : Type} {p : α→Bool} {l : List α} {i : Nat} (h : i < l.findIdx p) (hi : i < l.length) : p l[i]=false:=by
  have:=List.not_of_lt_findIdx h; simpa using this
theorem firstBy_mem {α : Type} {p : α→Bool} {l : List α} {x : α} (h : firstBy p l=some x) : x∈l∧p x=true:=by
  rcases findIdx_cases p l with h0 | ⟨h1,h2⟩
  · rw [firstBy_none h0] at h; cases h
  · rw [firstBy_some h1] at h
    obtain rfl:=Option.some.inj h
    exact ⟨List.getElem_mem _,h2⟩
theorem firstBy_no {α : Type} {p : α→Bool} {l : List α} (h : firstBy p l=none) : ∀ x∈l,p x=false:=by
  rcases findIdx_cases p l with h0 | ⟨h1,h2⟩
  · intro x hx
    obtain ⟨i,hi,rfl⟩:=List.mem_iff_getElem.1 hx
    exact findIdx_not (by omega) hi
  · rw [firstBy_some h1] at h; cases h
def vxBy (l : List Vx) (x : ID) : Option Vx:=firstBy (fun v => decide (v.id=x)) l
def atBy (l : List Vx) (d : Dart) : Option Vx:=firstBy (fun v => decide (d∈v.ring)) l
def idT (x : ID) : TV:=.agg [.int .i64 x.s,.int .i64 x.n]
def atT : Option Vx→TV
  | some v => .tup [idT v.id,.bool true]
  | none => .tup [idT ⟨0,0⟩,.bool false]
def FitsR (l : List Vx) : Prop:=∀ v∈l,Fits v.ring
theorem i_vertexID (v : Vx) : call F 43 [.agg [.int .i64 v.id.s,.int .i64 v.id.n,.sl .shared 3 (rowsBy Dart.c v.ring),.str v.label,.int .i64 v.attr]]=some (.agg [.int .i64 v.id.s,.int .i64 v.id.n]):=by
  rw [call_code F (show F 43=some (.code f43) from rfl)]
  simp only [f43,go_sem,seval]
def vxT (fl : Fl) : Option Vx→TV
  | some v => .tup [.agg [.int .i64 v.id.s,.int .i64 v.id.n,.sl fl 3 (rowsBy Dart.c v.ring),.str v.label,.int .i64 v.attr],.bool true]
  | none => .tup [.agg [.int .i64 0,.int .i64 0,.sl (.own 56) 3 [],.str ⟨#[]⟩,.int .i64 0],.bool false]
theorem i_At (l : List Vx) (d : Dart) (hl : Fits l) (hr : FitsR l) (es : TV) : call F 106 [.agg [.sl .shared 5 (rowsBy Vx.c l),es],.agg [.int .i64 d.e.s,.int .i64 d.e.n,.int .i64 d.d]]=some (atT (atBy l d)):=by
  have hle : (l).length≤5864062014634:=hl.le
  have hw : (l).length≤9223372036854775807:=Nat.le_trans hle (by decide)
  have S : ∀ n,n≤(l).length→(∀ i,i < n→∀ hi : i < (l).length,(fun v : Vx => decide (d∈v.ring)) (l)[i]=false)→∀ r,E (cs F) 0 f106_b1 (⟨(upd (upd (upd (upd (upd Sx.e0 11 (.v (.int .i64 ((n : Int))))) 10 (.v (.int .i64 ((l.length : Int))))) 9 (.v (.sl .shared 5 (rowsBy Vx.c l)))) 4 (.p 4 0)) 3 (.p 3 0)),(upd (upd Sx.h0 4 (some (.var false [(.v (.int .i64 (0))),(.v (.int .i64 (0)))]))) 3 (some (.var false [(.v (.int .i64 (d.e.s))),(.v (.int .i64 (d.e.n))),(.v (.int .i64 (d.d)))])))⟩ : St)=some r→r.1≠.norm →
      E (cs F) 0 f106_l1 (⟨(upd (upd (upd (upd (upd Sx.e0 11 (.v (.int .i64 (0)))) 10 (.v (.int .i64 ((l.length : Int))))) 9 (.v (.sl .shared 5 (rowsBy Vx.c l)))) 4 (.p 4 0)) 3 (.p 3 0)),(upd (upd Sx.h0 4 (some (.var false [(.v (.int .i64 (0))),(.v (.int .i64 (0)))]))) 3 (some (.var false [(.v (.int .i64 (d.e.s))),(.v (.int .i64 (d.e.n))),(.v (.int .i64 (d.d)))])))⟩ : St)=some r:=by
    intro n hn hno r hf hrr
    refine loop_to (b:=f106_b1) (fun i => (⟨(upd (upd (upd (upd (upd Sx.e0 11 (.v (.int .i64 ((i : Int))))) 10 (.v (.int .i64 ((l.length : Int))))) 9 (.v (.sl .shared 5 (rowsBy Vx.c l)))) 4 (.p 4 0)) 3 (.p 3 0)),(upd (upd Sx.h0 4 (some (.var false [(.v (.int .i64 (0))),(.v (.int .i64 (0)))]))) 3 (some (.var false [(.v (.int .i64 (d.e.s))),(.v (.int .i64 (d.e.n))),(.v (.int .i64 (d.d)))])))⟩ : St)) n ?_ hf hrr
    intro i hi
    have h1 : i < (l).length:=Nat.lt_of_lt_of_le hi hn
    have h1z : (i : Int) < ((l).length : Int):=Int.ofNat_lt.2 h1
    have hne:=hno i hi h1
    have hv:=c_Contains_Dart l[i].ring d.e.s d.e.n d.d (hr _ (List.getElem_mem h1))
    rw [show decide ((⟨⟨d.e.s,d.e.n⟩,d.d⟩ : Dart)∈l[i].ring)=false from hne] at hv
    simp only [f106_b1,dec_lt h1,h1z,rowsBy_get Vx.c h1,Vx.c,hv,wrap_succ h1 hw,go_sem,seval]
  have S:=S ((l).findIdx (fun v : Vx => decide (d∈v.ring))) List.findIdx_le_length (fun i h1 h2 => findIdx_not h1 h2)
  rcases findIdx_cases (fun v : Vx => decide (d∈v.ring)) (l) with h0 | ⟨hlt,hp⟩
  · rw [h0] at S
    have := S _ (by simp only [f106_b1, dec_ge (Nat.le_refl (l).length), go_sem, seval]
                    rfl) (by simp)
    rw [atBy,firstBy_none h0,atT,idT]
    rw [call_code F (show F 106=some (.code f106) from rfl)]
    simp only [f106,this,go_sem,seval]
  · rw [atBy, firstBy_some hlt, atT, idT]
    generalize (l).findIdx (fun v : Vx => decide (d∈v.ring))=n at *
    have hltz : (n : Int) < ((l).length : Int):=Int.ofNat_lt.2 hlt
    have hv:=c_Contains_Dart l[n].ring d.e.s d.e.n d.d (hr _ (List.getElem_mem hlt))
    rw [show decide ((⟨⟨d.e.s,d.e.n⟩,d.d⟩ : Dart)∈l[n].ring)=true from hp] at hv
    have := S _ (by simp only [f106_b1, dec_lt hlt, hltz, rowsBy_get Vx.c hlt, Vx.c, hv, go_sem, seval]
                    rfl) (by simp)
    rw [call_code F (show F 106=some (.code f106) from rfl)]
    simp only [f106,this,go_sem,seval]
theorem i_r04_At (l : List Vx) (d : Dart) (hl : Fits l) (hr : FitsR l) (es : TV) : call F 98 [.agg [.sl .shared 5 (rowsBy Vx.c l),es],.agg [.int .i64 d.e.s,.int .i64 d.e.n,.int .i64 d.d]]=some (atT (atBy l d)):=by
  have hle : (l).length≤5864062014634:=hl.le
  have hw : (l).length≤9223372036854775807:=Nat.le_trans hle (by decide)
  have S : ∀ n,n≤(l).length→(∀ i,i < n→∀ hi : i < (l).length,(fun v : Vx => decide (d∈v.ring)) (l)[i]=false)→∀ r,E (cs F) 0 f98_b1 (⟨(upd (upd (upd (upd Sx.e0 6 (.v (.int .i64 ((n : Int))))) 4 (.p 4 0)) 3 (.p 3 0)) 2 (.p 2 0)),(upd (upd (upd Sx.h0 4 (some (.var false [(.v (.int .i64 (0))),(.v (.int .i64 (0)))]))) 3 (some (.var false [(.v (.int .i64 (d.e.s))),(.v (.int .i64 (d.e.n))),(.v (.int .i64 (d.d)))]))) 2 (some (.var false [(.v (.sl .shared 5 (rowsBy Vx.c l))),(.v es)])))⟩ : St)=some r→r.1≠.norm →
      E (cs F) 0 f98_l1 (⟨(upd (upd (upd (upd Sx.e0 6 (.v (.int .i64 (0)))) 4 (.p 4 0)) 3 (.p 3 0)) 2 (.p 2 0)),(upd (upd (upd Sx.h0 4 (some (.var false [(.v (.int .i64 (0))),(.v (.int .i64 (0)))]))) 3 (some (.var false [(.v (.int .i64 (d.e.s))),(.v (.int .i64 (d.e.n))),(.v (.int .i64 (d.d)))]))) 2 (some (.var false [(.v (.sl .shared 5 (rowsBy Vx.c l))),(.v es)])))⟩ : St)=some r:=by
    intro n hn hno r hf hrr
    refine loop_to (b:=f98_b1) (fun i => (⟨(upd (upd (upd (upd Sx.e0 6 (.v (.int .i64 ((i : Int))))) 4 (.p 4 0)) 3 (.p 3 0)) 2 (.p 2 0)),(upd (upd (upd Sx.h0 4 (some (.var false [(.v (.int .i64 (0))),(.v (.int .i64 (0)))]))) 3 (some (.var false [(.v (.int .i64 (d.e.s))),(.v (.int .i64 (d.e.n))),(.v (.int .i64 (d.d)))]))) 2 (some (.var false [(.v (.sl .shared 5 (rowsBy Vx.c l))),(.v es)])))⟩ : St)) n ?_ hf hrr
    intro i hi
    have h1 : i < (l).length:=Nat.lt_of_lt_of_le hi hn
    have h1z : (i : Int) < ((l).length : Int):=Int.ofNat_lt.2 h1
    have hne:=hno i hi h1
    have hv:=i_r03_Index l[i].ring d (hr _ (List.getElem_mem h1))
    have hm : d∉l[i].ring:=of_decide_eq_false hne
    rw [idx_neg hm] at hv
    simp only [f98_b1,dec_lt h1,h1z,rowsBy_get Vx.c h1,Vx.c,hv,wrap_succ h1 hw,go_sem,seval]
  have S:=S ((l).findIdx (fun v : Vx => decide (d∈v.ring))) List.findIdx_le_length (fun i h1 h2 => findIdx_not h1 h2)
  rcases findIdx_cases (fun v : Vx => decide (d∈v.ring)) (l) with h0 | ⟨hlt,hp⟩
  · rw [h0] at S
    have := S _ (by simp only [f98_b1, dec_ge (Nat.le_refl (l).length), go_sem, seval]
                    rfl) (by simp)
    rw [atBy,firstBy_none h0,atT,idT]
    rw [call_code F (show F 98=some (.code f98) from rfl)]
    simp only [f98,this,go_sem,seval]
  · rw [atBy, firstBy_some hlt, atT, idT]
    generalize (l).findIdx (fun v : Vx => decide (d∈v.ring))=n at *
    have hltz : (n : Int) < ((l).length : Int):=Int.ofNat_lt.2 hlt
    have hv:=i_r03_Index l[n].ring d (hr _ (List.getElem_mem hlt))
    have hm : d∈l[n].ring:=of_decide_eq_true hp
    rw [idx_pos hm] at hv
    have hq : decide (((l[n].ring.idxOf d : Nat) : Int) ≥ 0)=true:=by simp
    have := S _ (by simp only [f98_b1, dec_lt hlt, hltz, rowsBy_get Vx.c hlt, Vx.c, hv, hq, go_sem, seval]
                    rfl) (by simp)
    rw [call_code F (show F 98=some (.code f98) from rfl)]
    simp only [f98,this,go_sem,seval]
theorem i_r04_Vertex (l : List Vx) (x : ID) (hl : Fits l) (es : TV) : call F 110 [.agg [.sl .shared 5 (rowsBy Vx.c l),es],.agg [.int .i64 x.s,.int .i64 x.n]]=some (vxT .shared (vxBy l x)):=by
  have hle : (l).length≤5864062014634:=hl.le
  have hw : (l).length≤9223372036854775807:=Nat.le_trans hle (by decide)
  have S : ∀ n,n≤(l).length→(∀ i,i < n→∀ hi : i < (l).length,(fun v : Vx => decide (v.id=x)) (l)[i]=false)→∀ r,E (cs F) 0 f110_b1 (⟨(upd (upd (upd (upd Sx.e0 6 (.v (.int .i64 ((n : Int))))) 4 (.p 4 0)) 3 (.p 3 0)) 2 (.p 2 0)),(upd (upd (upd Sx.h0 4 (some (.var false [(.v (.int .i64 (0))),(.v (.int .i64 (0))),(.v (.sl (.tight 56) 3 [])),(.v (.str ⟨#[]⟩)),(.v (.int .i64 (0)))]))) 3 (some (.var false [(.v (.int .i64 (x.s))),(.v (.int .i64 (x.n)))]))) 2 (some (.var false [(.v (.sl .shared 5 (rowsBy Vx.c l))),(.v es)])))⟩ : St)=some r→r.1≠.norm →
      E (cs F) 0 f110_l1 (⟨(upd (upd (upd (upd Sx.e0 6 (.v (.int .i64 (0)))) 4 (.p 4 0)) 3 (.p 3 0)) 2 (.p 2 0)),(upd (upd (upd Sx.h0 4 (some (.var false [(.v (.int .i64 (0))),(.v (.int .i64 (0))),(.v (.sl (.tight 56) 3 [])),(.v (.str ⟨#[]⟩)),(.v (.int .i64 (0)))]))) 3 (some (.var false [(.v (.int .i64 (x.s))),(.v (.int .i64 (x.n)))]))) 2 (some (.var false [(.v (.sl .shared 5 (rowsBy Vx.c l))),(.v es)])))⟩ : St)=some r:=by
    intro n hn hno r hf hrr
    refine loop_to (b:=f110_b1) (fun i => (⟨(upd (upd (upd (upd Sx.e0 6 (.v (.int .i64 ((i : Int))))) 4 (.p 4 0)) 3 (.p 3 0)) 2 (.p 2 0)),(upd (upd (upd Sx.h0 4 (some (.var false [(.v (.int .i64 (0))),(.v (.int .i64 (0))),(.v (.sl (.tight 56) 3 [])),(.v (.str ⟨#[]⟩)),(.v (.int .i64 (0)))]))) 3 (some (.var false [(.v (.int .i64 (x.s))),(.v (.int .i64 (x.n)))]))) 2 (some (.var false [(.v (.sl .shared 5 (rowsBy Vx.c l))),(.v es)])))⟩ : St)) n ?_ hf hrr
    intro i hi
    have h1 : i < (l).length:=Nat.lt_of_lt_of_le hi hn
    have h1z : (i : Int) < ((l).length : Int):=Int.ofNat_lt.2 h1
    have hne:=hno i hi h1
    have hne' : ¬ l[i].id=x:=of_decide_eq_false hne
    have hq1:=dec_f hne'
    have hq2:=dec_f (Ne.symm hne')
    simp only [f110_b1,dec_lt h1,h1z,rowsBy_get Vx.c h1,Vx.c,hq1,hq2,wrap_succ h1 hw,go_sem,seval]
  have S:=S ((l).findIdx (fun v : Vx => decide (v.id=x))) List.findIdx_le_length (fun i h1 h2 => findIdx_not h1 h2)
  rcases findIdx_cases (fun v : Vx => decide (v.id=x)) (l) with h0 | ⟨hlt,hp⟩
  · rw [h0] at S
    have := S _ (by simp only [f110_b1, dec_ge (Nat.le_refl (l).length), go_sem, seval]
                    rfl) (by simp)
    rw [vxBy,firstBy_none h0,vxT]
    rw [call_code F (show F 110=some (.code f110) from rfl)]
    simp only [f110,this,go_sem,seval]
  · rw [vxBy, firstBy_some hlt, vxT]
    generalize (l).findIdx (fun v : Vx => decide (v.id=x))=n at *
    have hltz : (n : Int) < ((l).length : Int):=Int.ofNat_lt.2 hlt
    have hp' : l[n].id=x:=of_decide_eq_true hp
    have hq1:=dec_t hp'
    have hq2:=dec_t hp'.symm
    have := S _ (by simp only [f110_b1, dec_lt hlt, hltz, rowsBy_get Vx.c hlt, Vx.c, hq1, hq2, go_sem, seval]
                    rfl) (by simp)
    rw [call_code F (show F 110=some (.code f110) from rfl)]
    simp only [f110,this,go_sem,seval]
end Go.Proofs.Ytcecojdeljbjoaa.Sx
namespace Go.Proofs.Ytcecojdeljbjoaa.Sx
open Go
def rotG (l : List Dart) (k i : Nat) : List Dart:=(List.range i).map fun j => l.getD ((k+j) % l.length) Dart0
theorem rotG_snoc (l : List Dart) (k i : Nat) : rotG l k (i+1)=rotG l k i++[l.getD ((k+i) % l.length) Dart0]:=by
  unfold rotG; rw [List.range_succ,List.map_append]; rfl
theorem rotG_length (l : List Dart) (k i : Nat) : (rotG l k i).length=i:=by unfold rotG; simp
theorem rotG_all {l : List Dart} {k : Nat} (hk : k < l.length) : rotG l k l.length=l.drop k++l.take k:=by
  unfold rotG
  apply List.ext_getElem
  · simp; omega
  · intro i h1 h2
    simp only [List.length_map,List.length_range] at h1
    rw [List.getElem_map,List.getElem_range,List.getElem_append]
    split
    · rename_i h
      simp only [List.length_drop] at h
      rw [List.getElem_drop,Nat.mod_eq_of_lt (by omega)]
      simp
      rw [List.getElem?_eq_getElem (by omega)]
      rfl
    · rename_i h
      simp only [List.length_drop,Nat.not_lt] at h
      rw [List.getElem_take]
      have e : (k+i) % l.length=i - (l.length - k):=by rw [Nat.mod_eq_sub_mod (by omega),Nat.mod_eq_of_lt (by omega)]; omega
      simp only [List.length_drop,e]
      simp
      rw [List.getElem?_eq_getElem (by omega)]
      rfl
theorem turn_kOf {l : List Dart} (h : l≠[]) : kOf l l.length=l.idxOf (minD l):=by
  have hp : 0 < l.length:=List.length_pos_iff.2 h
  obtain ⟨n,hn⟩ : ∃ n,l.length=n+1:=⟨l.length - 1,by omega⟩
  have:=(kOf_min l n (by omega)).2
  rw [← hn,List.take_length] at this
  exact this.symm
theorem turn_rot (l : List Dart) : rotG l (kOf l l.length) l.length=turn l:=by
  by_cases h : l=[]
  · subst h; rfl
  · rw [turn_kOf h,rotG_all (List.idxOf_lt_length_iff.2 (minD_mem h))]; rfl
theorem c_r03_Turn (l : List Dart) (hl : Fits l) : call F 70 [.sl .shared 3 (rowsBy Dart.c l)]=some (.sl (.own 56) 3 (rowsBy Dart.c (turn l))):=by
  have hle:=hl.le
  have l1 : E (cs F) 0 f70_l1 (⟨(upd (upd (upd Sx.e0 4 (.v (.int .i64 (0)))) 3 (.v (.int .i64 (0)))) 0 (.v (.sl .shared 3 (rowsBy Dart.c l)))),Sx.h0⟩ : St) =
      some (.exit 0,(⟨(upd (upd Sx.e0 3 (.v (.int .i64 ((kOf l l.length : Int))))) 0 (.v (.sl .shared 3 (rowsBy Dart.c l)))),Sx.h0⟩ : St)):=by
    refine loop_to (b:=f70_b1) (fun i => (⟨(upd (upd (upd Sx.e0 4 (.v (.int .i64 ((i : Int))))) 3 (.v (.int .i64 ((kOf l i : Int))))) 0 (.v (.sl .shared 3 (rowsBy Dart.c l)))),Sx.h0⟩ : St)) l.length ?_ ?_ (by simp)
    · intro i hi
      have hk : kOf l i < l.length:=by have:=kOf_lt l i; omega
      have h2 : ((kOf l i : Nat) : Int) < (l.length : Int):=by omega
      have g1 : l.getD i Dart0=l[i]:=by simp [hi]
      have g2 : l.getD (kOf l i) Dart0=l[kOf l i]:=by simp [hk]
      have hs : kOf l (i+1)=if ordD l[i] l[kOf l i] < 0 then i else kOf l i:=by rw [← g1,← g2]; rfl
      rw [hs]
      cases hc : decide (ordD l[i] l[kOf l i] < 0) with
      | true =>
        rw [if_pos (of_decide_eq_true hc)]
        simp only [f70_b1,dec_lt hi,rowsBy_get Dart.c hi,rowsBy_get Dart.c hk,Dart.c,c_r01_OrderDart,hc,h2,wrap_succ hi (show l.length≤9223372036854775807 by omega),go_sem,seval]
      | false =>
        rw [if_neg (of_decide_eq_false hc)]
        simp only [f70_b1,dec_lt hi,rowsBy_get Dart.c hi,rowsBy_get Dart.c hk,Dart.c,c_r01_OrderDart,hc,h2,wrap_succ hi (show l.length≤9223372036854775807 by omega),go_sem,seval]
    · simp only [f70_b1,dec_ge (Nat.le_refl l.length),go_sem,seval]
  have l2 : E (cs F) 0 f70_l2 (⟨(upd (upd (upd (upd Sx.e0 6 (.v (.int .i64 (0)))) 5 (.s 5 0 0)) 3 (.v (.int .i64 ((kOf l l.length : Int))))) 0 (.v (.sl .shared 3 (rowsBy Dart.c l)))),(upd Sx.h0 5 (some (.arr false 56 3 [])))⟩ : St) =
      some (.exit 2,(⟨(upd Sx.e0 5 (.s 5 0 l.length)),(upd Sx.h0 5 (some (.arr false 56 3 (rowsBy Dart.c (turn l)))))⟩ : St)):=by
    refine loop_to (b:=f70_b2) (fun i => (⟨(upd (upd (upd (upd Sx.e0 6 (.v (.int .i64 ((i : Int))))) 5 (.s 5 0 i)) 3 (.v (.int .i64 ((kOf l l.length : Int))))) 0 (.v (.sl .shared 3 (rowsBy Dart.c l)))),(upd Sx.h0 5 (some (.arr false 56 3 (rowsBy Dart.c (rotG l (kOf l l.length) i)))))⟩ : St)) l.length ?_ ?_ (by simp)
    · intro i hi
      have hk : kOf l l.length < l.length:=by have:=kOf_lt l l.length; omega
      have h1 : IntKind.i64.wrap (((kOf l l.length : Nat) : Int)+(i : Int))=((kOf l l.length+i : Nat) : Int):=by rw [wrap64 (by omega) (by omega)]; omega
      have h2 : ¬ ((l.length : Int)=0):=by omega
      have h3 : (kOf l l.length+i) % l.length < l.length:=Nat.mod_lt _ (by omega)
      have h4 : (((kOf l l.length+i) % l.length : Nat) : Int) < (l.length : Int):=by omega
      have g1 : l.getD ((kOf l l.length+i) % l.length) Dart0=l[(kOf l l.length+i) % l.length]:=by simp [h3]
      have h5 : (i+1) * 24≤140737488355328:=by omega
      have h6 : (rotG l (kOf l l.length) i).take i=rotG l (kOf l l.length) i:=List.take_of_length_le (by rw [rotG_length]; omega)
      rw [rotG_snoc,g1]
      simp only [f70_b2,dec_lt hi,rowsBy_get Dart.c h3,Dart.c,h1,h2,tmod_nat,h4,h5,h6,wrap_succ hi (show l.length≤9223372036854775807 by omega),go_sem,seval]
    · rw [turn_rot]
      simp only [f70_b2,dec_ge (Nat.le_refl l.length),go_sem,seval]
  have ht : (turn l).take l.length=turn l:=List.take_of_length_le (by rw [turn_length]; exact Nat.le_refl _)
  rw [call_code F (show F 70=some (.code f70) from rfl)]
  simp only [f70,l1,l2,ht,go_sem,seval]
end Go.Proofs.Ytcecojdeljbjoaa.Sx
namespace Go.Proofs.Ytcecojdeljbjoaa.Sx
open Go
theorem first_cases (p : Nat→Bool) : ∀ N,(∀ i,i < N→p i=false)∨∃ k,k < N∧p k=true∧∀ i,i < k→p i=false
  | 0 => .inl fun _ h => absurd h (Nat.not_lt_zero _)
  | N + 1 => by
    rcases first_cases p N with h | ⟨k,h1,h2,h3⟩
    · cases hp : p N with
      | false =>
        refine .inl fun i hi => ?_
        by_cases e : i=N
        · rw [e]; exact hp
        · exact h i (by omega)
      | true => exact .inr ⟨N,Nat.lt_succ_self _,hp,h⟩
    · exact .inr ⟨k,by omega,h2,h3⟩
def badR (l : List ID) (i : Nat) : Bool:=!mayI (l.getD i ID0) || (decide (0 < i) && decide (ordI (l.getD (i - 1) ID0) (l.getD i ID0) ≥ 0))
def riseI (l : List ID) : Bool:=(List.range l.length).all fun i => !badR l i
theorem riseI_true {l : List ID} (h : ∀ i,i < l.length→badR l i=false) : riseI l=true:=by
  unfold riseI; rw [List.all_eq_true]; intro i hi; rw [h i (List.mem_range.1 hi)]; rfl
theorem riseI_false {l : List ID} {k : Nat} (hk : k < l.length) (h : badR l k=true) : riseI l=false:=by
  unfold riseI; rw [List.all_eq_false]; exact ⟨k,List.mem_range.2 hk,by rw [h]; simp⟩
theorem getD_lt {l : List ID} {i : Nat} (h : i < l.length) : l.getD i ID0=l[i]:=by rw [List.getD_eq_getElem?_getD,List.getElem?_eq_getElem h]; rfl
theorem badR_no {l : List ID} {i : Nat} (hi : i < l.length) (h : badR l i=false) : mayI l[i]=true∧∀ j (e : i=j+1),ordI (l[j]'(by omega)) l[i] < 0:=by
  unfold badR at h
  rw [getD_lt hi] at h
  rw [Bool.or_eq_false_iff] at h
  refine ⟨by simpa using h.1,?_⟩
  rintro j rfl
  have h2:=h.2
  rw [show j+1 - 1=j by omega,getD_lt (show j < l.length by omega)] at h2
  simp at h2
  exact h2
theorem badR_yes {l : List ID} {i : Nat} (hi : i < l.length) (h : badR l i=true) (hm : mayI l[i]=true) : ∃ j,∃ e : i=j+1,ordI (l[j]'(by omega)) l[i] ≥ 0:=by
  unfold badR at h
  rw [getD_lt hi,hm] at h
  cases i with
  | zero => simp at h
  | succ j =>
    rw [show j+1 - 1=j by omega,getD_lt (show j < l.length by omega)] at h
    exact ⟨j,rfl,by simpa using h⟩
theorem c_rise (l : List ID) (hl : Fits l) : call F 41 [.sl .shared 2 (rowsBy ID.c l)]=some (.bool (riseI l)):=by
  have hle:=hl.le
  have hw : l.length≤9223372036854775807:=by omega
  have S : ∀ n,n≤l.length→(∀ i,i < n→badR l i=false)→∀ r,E (cs F) 0 f41_b1 (⟨(upd (upd (upd (upd Sx.e0 7 (.v (.int .i64 ((n : Int))))) 6 (.v (.int .i64 ((l.length : Int))))) 5 (.v (.sl .shared 2 (rowsBy ID.c l)))) 0 (.v (.sl .shared 2 (rowsBy ID.c l)))),Sx.h0⟩ : St)=some r→r.1≠.norm →
      E (cs F) 0 f41_l1 (⟨(upd (upd (upd (upd Sx.e0 7 (.v (.int .i64 (0)))) 6 (.v (.int .i64 ((l.length : Int))))) 5 (.v (.sl .shared 2 (rowsBy ID.c l)))) 0 (.v (.sl .shared 2 (rowsBy ID.c l)))),Sx.h0⟩ : St)=some r:=by
    intro n hn hno r hf hrr
    refine loop_to (b:=f41_b1) (fun i => (⟨(upd (upd (upd (upd Sx.e0 7 (.v (.int .i64 ((i : Int))))) 6 (.v (.int .i64 ((l.length : Int))))) 5 (.v (.sl .shared 2 (rowsBy ID.c l)))) 0 (.v (.sl .shared 2 (rowsBy ID.c l)))),Sx.h0⟩ : St)) n ?_ hf hrr
    intro i hi
    have h1 : i < l.length:=by omega
    have h1z : (i : Int) < (l.length : Int):=by omega
    obtain ⟨hm,ho⟩:=badR_no h1 (hno i hi)
    have cm:=c_ident_May l[i].s l[i].n
    rw [show mayI ⟨l[i].s,l[i].n⟩=true from hm] at cm
    cases i with
    | zero =>
      have z1 : decide ((0 : Int) < (l.length : Int))=true:=decide_eq_true h1z
      have z2 : (0 : Int) < (l.length : Int):=h1z
      simp only [f41_b1,z1,z2,rowsBy_get ID.c h1,ID.c,cm,show decide ((0 : Int) > 0)=false from rfl,show IntKind.i64.wrap 1=1 from rfl,go_sem,seval]
    | succ j =>
      have hj : j < l.length:=by omega
      have hjz : (j : Int) < (l.length : Int):=by omega
      have w1 : IntKind.i64.wrap (((j+1 : Nat) : Int) - 1)=(j : Int):=by rw [wrap64 (by omega) (by omega)]; omega
      have k1 : decide (((j+1 : Nat) : Int) > 0)=true:=decide_eq_true (by omega)
      have co:=c_ident_Order l[j].s l[j].n l[j+1].s l[j+1].n
      have ho' : decide (ordI ⟨l[j].s,l[j].n⟩ ⟨l[j+1].s,l[j+1].n⟩ ≥ 0)=false:=decide_eq_false (by have:=ho j rfl; show ¬ (ordI l[j] l[j+1] ≥ 0); omega)
      simp only [f41_b1,dec_lt h1,h1z,hjz,rowsBy_get ID.c h1,rowsBy_get ID.c hj,ID.c,cm,co,ho',w1,k1,wrap_succ h1 hw,go_sem,seval]
  rcases first_cases (badR l) l.length with hall | ⟨k,hk,hbad,hno⟩
  · have S := S l.length (Nat.le_refl _) hall
    rw [show riseI l=true from riseI_true hall]
    have := S _ (by simp only [f41_b1, dec_ge (Nat.le_refl l.length), go_sem, seval]
                    rfl) (by simp)
    rw [call_code F (show F 41=some (.code f41) from rfl)]
    simp only [f41,this,go_sem,seval]
  · have S := S k (Nat.le_of_lt hk) hno
    rw [show riseI l=false from riseI_false hk hbad]
    have hkz : (k : Int) < (l.length : Int):=by omega
    have cm:=c_ident_May l[k].s l[k].n
    by_cases hm : mayI l[k]=true
    · rw [show mayI ⟨l[k].s, l[k].n⟩ = true from hm] at cm
      obtain ⟨j,rfl,ho⟩:=badR_yes hk hbad hm
      have hj : j < l.length:=by omega
      have hjz : (j : Int) < (l.length : Int):=by omega
      have w1 : IntKind.i64.wrap (((j+1 : Nat) : Int) - 1)=(j : Int):=by rw [wrap64 (by omega) (by omega)]; omega
      have k1 : decide (((j+1 : Nat) : Int) > 0)=true:=decide_eq_true (by omega)
      have co:=c_ident_Order l[j].s l[j].n l[j+1].s l[j+1].n
      have ho' : decide (ordI ⟨l[j].s,l[j].n⟩ ⟨l[j+1].s,l[j+1].n⟩ ≥ 0)=true:=decide_eq_true ho
      have := S _ (by simp only [f41_b1, dec_lt hk, hkz, hjz, rowsBy_get ID.c hk, rowsBy_get ID.c hj, ID.c, cm, co, ho', w1, k1, go_sem, seval]
                      rfl) (by simp)
      rw [call_code F (show F 41=some (.code f41) from rfl)]
      simp only [f41,this,go_sem,seval]
    · rw [show mayI ⟨l[k].s, l[k].n⟩ = false by simpa using hm] at cm
      have := S _ (by simp only [f41_b1, dec_lt hk, hkz, rowsBy_get ID.c hk, ID.c, cm, go_sem, seval]
                      rfl) (by simp)
      rw [call_code F (show F 41=some (.code f41) from rfl)]
      simp only [f41,this,go_sem,seval]
theorem c_r04_rise (l : List ID) (hl : Fits l) : call F 54 [.sl .shared 2 (rowsBy ID.c l)]=some (.bool (riseI l)):=by
  have hle:=hl.le
  have hw : l.length≤9223372036854775807:=by omega
  have S : ∀ n,n≤l.length→(∀ i,i < n→badR l i=false)→∀ r,E (cs F) 0 f54_b1 (⟨(upd (upd Sx.e0 3 (.v (.int .i64 ((n : Int))))) 0 (.v (.sl .shared 2 (rowsBy ID.c l)))),Sx.h0⟩ : St)=some r→r.1≠.norm →
      E (cs F) 0 f54_l1 (⟨(upd (upd Sx.e0 3 (.v (.int .i64 (0)))) 0 (.v (.sl .shared 2 (rowsBy ID.c l)))),Sx.h0⟩ : St)=some r:=by
    intro n hn hno r hf hrr
    refine loop_to (b:=f54_b1) (fun i => (⟨(upd (upd Sx.e0 3 (.v (.int .i64 ((i : Int))))) 0 (.v (.sl .shared 2 (rowsBy ID.c l)))),Sx.h0⟩ : St)) n ?_ hf hrr
    intro i hi
    have h1 : i < l.length:=by omega
    have h1z : (i : Int) < (l.length : Int):=by omega
    obtain ⟨hm,ho⟩:=badR_no h1 (hno i hi)
    have cm:=c_r01_May l[i].s l[i].n
    rw [show mayI ⟨l[i].s,l[i].n⟩=true from hm] at cm
    cases i with
    | zero =>
      have z1 : decide ((0 : Int) < (l.length : Int))=true:=decide_eq_true h1z
      have z2 : (0 : Int) < (l.length : Int):=h1z
      simp only [f54_b1,z1,z2,rowsBy_get ID.c h1,ID.c,cm,show decide ((0 : Int) > 0)=false from rfl,show IntKind.i64.wrap 1=1 from rfl,go_sem,seval]
    | succ j =>
      have hj : j < l.length:=by omega
      have hjz : (j : Int) < (l.length : Int):=by omega
      have w1 : IntKind.i64.wrap (((j+1 : Nat) : Int) - 1)=(j : Int):=by rw [wrap64 (by omega) (by omega)]; omega
      have k1 : decide (((j+1 : Nat) : Int) > 0)=true:=decide_eq_true (by omega)
      have co:=c_r01_Order l[j].s l[j].n l[j+1].s l[j+1].n
      have ho' : decide (ordI ⟨l[j].s,l[j].n⟩ ⟨l[j+1].s,l[j+1].n⟩ ≥ 0)=false:=decide_eq_false (by have:=ho j rfl; show ¬ (ordI l[j] l[j+1] ≥ 0); omega)
      simp only [f54_b1,dec_lt h1,h1z,hjz,rowsBy_get ID.c h1,rowsBy_get ID.c hj,ID.c,cm,co,ho',w1,k1,wrap_succ h1 hw,go_sem,seval]
  rcases first_cases (badR l) l.length with hall | ⟨k,hk,hbad,hno⟩
  · have S := S l.length (Nat.le_refl _) hall
    rw [show riseI l=true from riseI_true hall]
    have := S _ (by simp only [f54_b1, dec_ge (Nat.le_refl l.length), go_sem, seval]
                    rfl) (by simp)
    rw [call_code F (show F 54=some (.code f54) from rfl)]
    simp only [f54,this,go_sem,seval]
  · have S := S k (Nat.le_of_lt hk) hno
    rw [show riseI l=false from riseI_false hk hbad]
    have hkz : (k : Int) < (l.length : Int):=by omega
    have cm:=c_r01_May l[k].s l[k].n
    by_cases hm : mayI l[k]=true
    · rw [show mayI ⟨l[k].s, l[k].n⟩ = true from hm] at cm
      obtain ⟨j,rfl,ho⟩:=badR_yes hk hbad hm
      have hj : j < l.length:=by omega
      have hjz : (j : Int) < (l.length : Int):=by omega
      have w1 : IntKind.i64.wrap (((j+1 : Nat) : Int) - 1)=(j : Int):=by rw [wrap64 (by omega) (by omega)]; omega
      have k1 : decide (((j+1 : Nat) : Int) > 0)=true:=decide_eq_true (by omega)
      have co:=c_r01_Order l[j].s l[j].n l[j+1].s l[j+1].n
      have ho' : decide (ordI ⟨l[j].s,l[j].n⟩ ⟨l[j+1].s,l[j+1].n⟩ ≥ 0)=true:=decide_eq_true ho
      have := S _ (by simp only [f54_b1, dec_lt hk, hkz, hjz, rowsBy_get ID.c hk, rowsBy_get ID.c hj, ID.c, cm, co, ho', w1, k1, go_sem, seval]
                      rfl) (by simp)
      rw [call_code F (show F 54=some (.code f54) from rfl)]
      simp only [f54,this,go_sem,seval]
    · rw [show mayI ⟨l[k].s, l[k].n⟩ = false by simpa using hm] at cm
      have := S _ (by simp only [f54_b1, dec_lt hk, hkz, rowsBy_get ID.c hk, ID.c, cm, go_sem, seval]
                      rfl) (by simp)
      rw [call_code F (show F 54=some (.code f54) from rfl)]
      simp only [f54,this,go_sem,seval]
theorem c_MayAttr (n : Int) : call F 51 [.int .i64 n]=some (.bool (decide (n ≥ -1099511627776) && decide (n≤1099511627776))):=by
  by_cases h : n ≥ -1099511627776
  · rw [dec_t h]
    rw [call_code F (show F 51=some (.code f51) from rfl)]
    simp only [f51,dec_t h,go_sem,seval]
  · rw [dec_f h]
    rw [call_code F (show F 51=some (.code f51) from rfl)]
    simp only [f51,dec_f h,go_sem,seval]
theorem c_r04_MayAttr (n : Int) : call F 57 [.int .i64 n]=some (.bool (decide (n ≥ -1099511627776) && decide (n≤1099511627776))):=by
  by_cases h : n ≥ -1099511627776
  · rw [dec_t h]
    rw [call_code F (show F 57=some (.code f57) from rfl)]
    simp only [f57,dec_t h,go_sem,seval]
  · rw [dec_f h]
    rw [call_code F (show F 57=some (.code f57) from rfl)]
    simp only [f57,dec_f h,go_sem,seval]
theorem i_edgeID (v : Ed) : call F 45 [.agg [.int .i64 v.id.s,.int .i64 v.id.n,.str v.label,.int .i64 v.attr]]=some (.agg [.int .i64 v.id.s,.int .i64 v.id.n]):=by
  rw [call_code F (show F 45=some (.code f45) from rfl)]
  simp only [f45,go_sem,seval]
theorem c_named_Vertex_more (l : List Vx) (hl : Fits l) (hne : 0 < l.length) : E (cs F) 0 f42_l1 (⟨(upd (upd (upd (upd (upd Sx.e0 10 (.v (.int .i64 (1)))) 9 (.v (.int .i64 ((l.length : Int))))) 8 (.v (.sl .shared 5 (rowsBy Vx.c l)))) 5 (.s 5 0 ((l.take 1).map Vx.id).length)) 1 (.v (.fn 43 []))),(upd Sx.h0 5 (some (.arr false 34 2 (rowsBy ID.c ((l.take 1).map Vx.id)))))⟩ : St)=some (.exit 0,(⟨(upd Sx.e0 5 (.s 5 0 (l.map Vx.id).length)),(upd Sx.h0 5 (some (.arr false 34 2 (rowsBy ID.c (l.map Vx.id)))))⟩ : St)):=by
  have hle:=hl.le
  have key:=loop_to (C:=cs F) (lo:=0) (b:=f42_b1) (fun i => (⟨(upd (upd (upd (upd (upd Sx.e0 10 (.v (.int .i64 (((i+1 : Nat) : Int))))) 9 (.v (.int .i64 ((l.length : Int))))) 8 (.v (.sl .shared 5 (rowsBy Vx.c l)))) 5 (.s 5 0 ((l.take (i+1)).map Vx.id).length)) 1 (.v (.fn 43 []))),(upd Sx.h0 5 (some (.arr false 34 2 (rowsBy ID.c ((l.take (i+1)).map Vx.id)))))⟩ : St)) (l.length - 1) (r:=(.exit 0,(⟨(upd Sx.e0 5 (.s 5 0 (l.map Vx.id).length)),(upd Sx.h0 5 (some (.arr false 34 2 (rowsBy ID.c (l.map Vx.id)))))⟩ : St))) ?_ ?_ (by simp)
  · exact key
  · intro i hi
    have h1 : i+1 < l.length:=by omega
    have h1z : ((i+1 : Nat) : Int) < (l.length : Int):=by omega
    have hs : (l.take (i+1+1)).map Vx.id=(l.take (i+1)).map Vx.id++[l[i+1].id]:=by rw [List.take_succ_eq_append_getElem h1,List.map_append]; rfl
    have hml : ((l.take (i+1)).map Vx.id).length≤i+1:=by rw [List.length_map,List.length_take]; omega
    have h5 : (((l.take (i+1)).map Vx.id).length+1) * 16≤140737488355328:=by omega
    rw [hs]
    have e2 : ((l.take (i+1)).map Vx.id++[l[i+1].id]).length=((l.take (i+1)).map Vx.id).length+1:=by rw [List.length_append]; rfl
    rw [e2]
    generalize (l.take (i+1)).map Vx.id=m at *
    have e3 : rowsBy ID.c m++[[.int .i64 l[i+1].id.s,.int .i64 l[i+1].id.n]]=rowsBy ID.c (m++[l[i+1].id]):=rowsBy_snoc ID.c m l[i+1].id
    have hv:=i_vertexID l[i+1]
    simp only [f42_b1,dec_lt h1,h1z,rowsBy_get Vx.c h1,Vx.c,hv,h5,e3,wrap_succ h1 (show l.length≤9223372036854775807 by omega),List.take_length,go_sem,seval]
  · rw [show l.length - 1 + 1 = l.length by omega, List.take_length]
    simp only [f42_b1,dec_ge (Nat.le_refl l.length),go_sem,seval]
theorem c_named_Vertex (l : List Vx) (hl : Fits l) : call F 42 [.sl .shared 5 (rowsBy Vx.c l),.fn 43 []]=some (.sl (.own 34) 2 (rowsBy ID.c (l.map Vx.id))):=by
  by_cases hne : l=[]
  · subst hne
    have l1 : E (cs F) 0 f42_l1 (⟨(upd (upd (upd (upd (upd Sx.e0 10 (.v (.int .i64 (0)))) 9 (.v (.int .i64 (0)))) 8 (.v (.sl .shared 5 []))) 5 (.v (.sl (.tight 34) 2 []))) 1 (.v (.fn 43 []))),Sx.h0⟩ : St)=some (.exit 0,(⟨(upd Sx.e0 5 (.v (.sl (.tight 34) 2 []))),(upd Sx.h0 5 (none))⟩ : St)):=by
      rw [f42_l1_eq]
      simp only [f42_b1,go_sem,seval]
    show call F 42 [.sl .shared 5 [],.fn 43 []]=some (.sl (.own 34) 2 [])
    rw [call_code F (show F 42=some (.code f42) from rfl)]
    simp only [f42,l1,go_sem,seval]
  · have hpos : 0 < l.length := List.length_pos_iff.2 hne
    have key:=c_named_Vertex_more l hl hpos
    have l1 : E (cs F) 0 f42_l1 (⟨(upd (upd (upd (upd (upd Sx.e0 10 (.v (.int .i64 (0)))) 9 (.v (.int .i64 ((l.length : Int))))) 8 (.v (.sl .shared 5 (rowsBy Vx.c l)))) 5 (.v (.sl (.tight 34) 2 []))) 1 (.v (.fn 43 []))),Sx.h0⟩ : St)=some (.exit 0,(⟨(upd Sx.e0 5 (.s 5 0 (l.map Vx.id).length)),(upd Sx.h0 5 (some (.arr false 34 2 (rowsBy ID.c (l.map Vx.id)))))⟩ : St)):=by
      rw [f42_l1_eq]
      have z1 : decide ((0 : Int) < (l.length : Int))=true:=decide_eq_true (by omega)
      have z2 : (0 : Int) < (l.length : Int):=by omega
      have hv:=i_vertexID l[0]
      have e1 : (l.take 1).map Vx.id=[l[0].id]:=by rw [List.take_succ_eq_append_getElem hpos]; simp
      rw [e1] at key
      simp only [List.length_cons,List.length_nil,rowsBy_cons,rowsBy_nil,ID.c] at key
      simp only [f42_b1,z1,z2,rowsBy_get Vx.c hpos,Vx.c,hv,show IntKind.i64.wrap 1=1 from rfl,go_sem,seval]
      exact key
    rw [call_code F (show F 42=some (.code f42) from rfl)]
    simp only [f42,l1,go_sem,seval]
theorem c_named_Edge_more (l : List Ed) (hl : Fits l) (hne : 0 < l.length) : E (cs F) 0 f44_l1 (⟨(upd (upd (upd (upd (upd Sx.e0 10 (.v (.int .i64 (1)))) 9 (.v (.int .i64 ((l.length : Int))))) 8 (.v (.sl .shared 4 (rowsBy Ed.c l)))) 5 (.s 5 0 ((l.take 1).map Ed.id).length)) 1 (.v (.fn 45 []))),(upd Sx.h0 5 (some (.arr false 34 2 (rowsBy ID.c ((l.take 1).map Ed.id)))))⟩ : St)=some (.exit 0,(⟨(upd Sx.e0 5 (.s 5 0 (l.map Ed.id).length)),(upd Sx.h0 5 (some (.arr false 34 2 (rowsBy ID.c (l.map Ed.id)))))⟩ : St)):=by
  have hle:=hl.le
  have key:=loop_to (C:=cs F) (lo:=0) (b:=f44_b1) (fun i => (⟨(upd (upd (upd (upd (upd Sx.e0 10 (.v (.int .i64 (((i+1 : Nat) : Int))))) 9 (.v (.int .i64 ((l.length : Int))))) 8 (.v (.sl .shared 4 (rowsBy Ed.c l)))) 5 (.s 5 0 ((l.take (i+1)).map Ed.id).length)) 1 (.v (.fn 45 []))),(upd Sx.h0 5 (some (.arr false 34 2 (rowsBy ID.c ((l.take (i+1)).map Ed.id)))))⟩ : St)) (l.length - 1) (r:=(.exit 0,(⟨(upd Sx.e0 5 (.s 5 0 (l.map Ed.id).length)),(upd Sx.h0 5 (some (.arr false 34 2 (rowsBy ID.c (l.map Ed.id)))))⟩ : St))) ?_ ?_ (by simp)
  · exact key
  · intro i hi
    have h1 : i+1 < l.length:=by omega
    have h1z : ((i+1 : Nat) : Int) < (l.length : Int):=by omega
    have hs : (l.take (i+1+1)).map Ed.id=(l.take (i+1)).map Ed.id++[l[i+1].id]:=by rw [List.take_succ_eq_append_getElem h1,List.map_append]; rfl
    have hml : ((l.take (i+1)).map Ed.id).length≤i+1:=by rw [List.length_map,List.length_take]; omega
    have h5 : (((l.take (i+1)).map Ed.id).length+1) * 16≤140737488355328:=by omega
    rw [hs]
    have e2 : ((l.take (i+1)).map Ed.id++[l[i+1].id]).length=((l.take (i+1)).map Ed.id).length+1:=by rw [List.length_append]; rfl
    rw [e2]
    generalize (l.take (i+1)).map Ed.id=m at *
    have e3 : rowsBy ID.c m++[[.int .i64 l[i+1].id.s,.int .i64 l[i+1].id.n]]=rowsBy ID.c (m++[l[i+1].id]):=rowsBy_snoc ID.c m l[i+1].id
    have hv:=i_edgeID l[i+1]
    simp only [f44_b1,dec_lt h1,h1z,rowsBy_get Ed.c h1,Ed.c,hv,h5,e3,wrap_succ h1 (show l.length≤9223372036854775807 by omega),List.take_length,go_sem,seval]
  · rw [show l.length - 1 + 1 = l.length by omega, List.take_length]
    simp only [f44_b1,dec_ge (Nat.le_refl l.length),go_sem,seval]
theorem c_named_Edge (l : List Ed) (hl : Fits l) : call F 44 [.sl .shared 4 (rowsBy Ed.c l),.fn 45 []]=some (.sl (.own 34) 2 (rowsBy ID.c (l.map Ed.id))):=by
  by_cases hne : l=[]
  · subst hne
    have l1 : E (cs F) 0 f44_l1 (⟨(upd (upd (upd (upd (upd Sx.e0 10 (.v (.int .i64 (0)))) 9 (.v (.int .i64 (0)))) 8 (.v (.sl .shared 4 []))) 5 (.v (.sl (.tight 34) 2 []))) 1 (.v (.fn 45 []))),Sx.h0⟩ : St)=some (.exit 0,(⟨(upd Sx.e0 5 (.v (.sl (.tight 34) 2 []))),(upd Sx.h0 5 (none))⟩ : St)):=by
      rw [f44_l1_eq]
      simp only [f44_b1,go_sem,seval]
    show call F 44 [.sl .shared 4 [],.fn 45 []]=some (.sl (.own 34) 2 [])
    rw [call_code F (show F 44=some (.code f44) from rfl)]
    simp only [f44,l1,go_sem,seval]
  · have hpos : 0 < l.length := List.length_pos_iff.2 hne
    have key:=c_named_Edge_more l hl hpos
    have l1 : E (cs F) 0 f44_l1 (⟨(upd (upd (upd (upd (upd Sx.e0 10 (.v (.int .i64 (0)))) 9 (.v (.int .i64 ((l.length : Int))))) 8 (.v (.sl .shared 4 (rowsBy Ed.c l)))) 5 (.v (.sl (.tight 34) 2 []))) 1 (.v (.fn 45 []))),Sx.h0⟩ : St)=some (.exit 0,(⟨(upd Sx.e0 5 (.s 5 0 (l.map Ed.id).length)),(upd Sx.h0 5 (some (.arr false 34 2 (rowsBy ID.c (l.map Ed.id)))))⟩ : St)):=by
      rw [f44_l1_eq]
      have z1 : decide ((0 : Int) < (l.length : Int))=true:=decide_eq_true (by omega)
      have z2 : (0 : Int) < (l.length : Int):=by omega
      have hv:=i_edgeID l[0]
      have e1 : (l.take 1).map Ed.id=[l[0].id]:=by rw [List.take_succ_eq_append_getElem hpos]; simp
      rw [e1] at key
      simp only [List.length_cons,List.length_nil,rowsBy_cons,rowsBy_nil,ID.c] at key
      simp only [f44_b1,z1,z2,rowsBy_get Ed.c hpos,Ed.c,hv,show IntKind.i64.wrap 1=1 from rfl,go_sem,seval]
      exact key
    rw [call_code F (show F 44=some (.code f44) from rfl)]
    simp only [f44,l1,go_sem,seval]
def edBy (l : List Ed) (x : ID) : Option Ed:=firstBy (fun v => decide (v.id=x)) l
def edT : Option Ed→TV
  | some v => .tup [.agg [.int .i64 v.id.s,.int .i64 v.id.n,.str v.label,.int .i64 v.attr],.bool true]
  | none => .tup [.agg [.int .i64 0,.int .i64 0,.str ⟨#[]⟩,.int .i64 0],.bool false]
theorem i_r04_Edge (l : List Ed) (x : ID) (hl : Fits l) (vs : List Vx) : call F 71 [.agg [.sl .shared 5 (rowsBy Vx.c vs),.sl .shared 4 (rowsBy Ed.c l)],.agg [.int .i64 x.s,.int .i64 x.n]]=some (edT (edBy l x)):=by
  have hle : (l).length≤5864062014634:=hl.le
  have hw : (l).length≤9223372036854775807:=Nat.le_trans hle (by decide)
  have S : ∀ n,n≤(l).length→(∀ i,i < n→∀ hi : i < (l).length,(fun v : Ed => decide (v.id=x)) (l)[i]=false)→∀ r,E (cs F) 0 f71_b1 (⟨(upd (upd (upd (upd Sx.e0 6 (.v (.int .i64 ((n : Int))))) 4 (.p 4 0)) 3 (.p 3 0)) 2 (.p 2 0)),(upd (upd (upd Sx.h0 4 (some (.var false [(.v (.int .i64 (0))),(.v (.int .i64 (0))),(.v (.str ⟨#[]⟩)),(.v (.int .i64 (0)))]))) 3 (some (.var false [(.v (.int .i64 (x.s))),(.v (.int .i64 (x.n)))]))) 2 (some (.var false [(.v (.sl .shared 5 (rowsBy Vx.c vs))),(.v (.sl .shared 4 (rowsBy Ed.c l)))])))⟩ : St)=some r→r.1≠.norm →
      E (cs F) 0 f71_l1 (⟨(upd (upd (upd (upd Sx.e0 6 (.v (.int .i64 (0)))) 4 (.p 4 0)) 3 (.p 3 0)) 2 (.p 2 0)),(upd (upd (upd Sx.h0 4 (some (.var false [(.v (.int .i64 (0))),(.v (.int .i64 (0))),(.v (.str ⟨#[]⟩)),(.v (.int .i64 (0)))]))) 3 (some (.var false [(.v (.int .i64 (x.s))),(.v (.int .i64 (x.n)))]))) 2 (some (.var false [(.v (.sl .shared 5 (rowsBy Vx.c vs))),(.v (.sl .shared 4 (rowsBy Ed.c l)))])))⟩ : St)=some r:=by
    intro n hn hno r hf hrr
    refine loop_to (b:=f71_b1) (fun i => (⟨(upd (upd (upd (upd Sx.e0 6 (.v (.int .i64 ((i : Int))))) 4 (.p 4 0)) 3 (.p 3 0)) 2 (.p 2 0)),(upd (upd (upd Sx.h0 4 (some (.var false [(.v (.int .i64 (0))),(.v (.int .i64 (0))),(.v (.str ⟨#[]⟩)),(.v (.int .i64 (0)))]))) 3 (some (.var false [(.v (.int .i64 (x.s))),(.v (.int .i64 (x.n)))]))) 2 (some (.var false [(.v (.sl .shared 5 (rowsBy Vx.c vs))),(.v (.sl .shared 4 (rowsBy Ed.c l)))])))⟩ : St)) n ?_ hf hrr
    intro i hi
    have h1 : i < (l).length:=Nat.lt_of_lt_of_le hi hn
    have h1z : (i : Int) < ((l).length : Int):=Int.ofNat_lt.2 h1
    have hne:=hno i hi h1
    have hne' : ¬ l[i].id=x:=of_decide_eq_false hne
    have hq1:=dec_f hne'
    have hq2:=dec_f (Ne.symm hne')
    simp only [f71_b1,dec_lt h1,h1z,rowsBy_get Ed.c h1,Ed.c,hq1,hq2,wrap_succ h1 hw,go_sem,seval]
  have S:=S ((l).findIdx (fun v : Ed => decide (v.id=x))) List.findIdx_le_length (fun i h1 h2 => findIdx_not h1 h2)
  rcases findIdx_cases (fun v : Ed => decide (v.id=x)) (l) with h0 | ⟨hlt,hp⟩
  · rw [h0] at S
    have := S _ (by simp only [f71_b1, dec_ge (Nat.le_refl (l).length), go_sem, seval]
                    rfl) (by simp)
    rw [edBy,firstBy_none h0,edT]
    rw [call_code F (show F 71=some (.code f71) from rfl)]
    simp only [f71,this,go_sem,seval]
  · rw [edBy, firstBy_some hlt, edT]
    generalize (l).findIdx (fun v : Ed => decide (v.id=x))=n at *
    have hltz : (n : Int) < ((l).length : Int):=Int.ofNat_lt.2 hlt
    have hp' : l[n].id=x:=of_decide_eq_true hp
    have hq1:=dec_t hp'
    have hq2:=dec_t hp'.symm
    have := S _ (by simp only [f71_b1, dec_lt hlt, hltz, rowsBy_get Ed.c hlt, Ed.c, hq1, hq2, go_sem, seval]
                    rfl) (by simp)
    rw [call_code F (show F 71=some (.code f71) from rfl)]
    simp only [f71,this,go_sem,seval]
theorem mayB_all (s : ByteArray) : mayB s=s.data.toList.all fun b => decide (32≤b.toNat) && decide (b.toNat≤126):=rfl
theorem c_r04_MayLabel (s : ByteArray) (hs : s.size≤9223372036854775807) : call F 56 [.str s]=some (.bool (mayB s && decide ((s.size : Int)≤16))):=by
  have hlen : s.data.toList.length=s.size:=by simp
  have S : ∀ n,n≤s.size→(∀ i,i < n→∀ h : i < s.data.toList.length,32≤(s.data.toList[i]).toNat∧(s.data.toList[i]).toNat≤126)→∀ r,E (cs F) 0 f56_b1 (⟨(upd (upd Sx.e0 3 (.v (.int .i64 ((n : Int))))) 0 (.v (.str s))),Sx.h0⟩ : St)=some r→r.1≠.norm →
      E (cs F) 0 f56_l1 (⟨(upd (upd Sx.e0 3 (.v (.int .i64 (0)))) 0 (.v (.str s))),Sx.h0⟩ : St)=some r:=by
    intro n hn hno r hf hrr
    refine loop_to (b:=f56_b1) (fun i => (⟨(upd (upd Sx.e0 3 (.v (.int .i64 ((i : Int))))) 0 (.v (.str s))),Sx.h0⟩ : St)) n ?_ hf hrr
    intro i hi
    have h1 : i < s.size:=by omega
    have h2 : i < s.data.toList.length:=by omega
    obtain ⟨g1,g2⟩:=hno i hi h2
    have hb : s.data.toList[i]?=some s.data.toList[i]:=List.getElem?_eq_getElem h2
    generalize s.data.toList[i]=b at *
    have k1 : decide ((b.toNat : Int) < 32)=false:=decide_eq_false (by omega)
    have k2 : decide ((b.toNat : Int) > 126)=false:=decide_eq_false (by omega)
    simp only [f56_b1,dec_lt h1,hb,byteR,k1,k2,wrap_succ h1 hs,go_sem,seval]
  rcases first_cases (fun i => !(decide (32≤(s.data.toList.getD i 0).toNat) && decide ((s.data.toList.getD i 0).toNat≤126))) s.size with hall | ⟨k,hk,hbad,hno⟩
  · have hgood : ∀ i,i < s.size→∀ h : i < s.data.toList.length,32≤(s.data.toList[i]).toNat∧(s.data.toList[i]).toNat≤126:=by
      intro i hi h
      have:=hall i hi
      rw [List.getD_eq_getElem?_getD,List.getElem?_eq_getElem h] at this
      simpa using this
    have S:=S s.size (Nat.le_refl _) hgood
    have hm : mayB s=true:=by
      rw [mayB_all,List.all_eq_true]
      intro b hb
      obtain ⟨i,hi,rfl⟩:=List.mem_iff_getElem.1 hb
      obtain ⟨g1,g2⟩:=hgood i (by omega) hi
      rw [decide_eq_true g1,decide_eq_true g2]; rfl
    have := S _ (by simp only [f56_b1, dec_ge (Nat.le_refl s.size), go_sem, seval]
                    rfl) (by simp)
    rw [hm,Bool.true_and]
    rw [call_code F (show F 56=some (.code f56) from rfl)]
    simp only [f56,this,go_sem,seval]
  · have hgood : ∀ i,i < k→∀ h : i < s.data.toList.length,32≤(s.data.toList[i]).toNat∧(s.data.toList[i]).toNat≤126:=by
      intro i hi h
      have:=hno i hi
      rw [List.getD_eq_getElem?_getD,List.getElem?_eq_getElem h] at this
      simpa using this
    have S:=S k (Nat.le_of_lt hk) hgood
    have h2 : k < s.data.toList.length:=by omega
    rw [List.getD_eq_getElem?_getD,List.getElem?_eq_getElem h2] at hbad
    have hb : s.data.toList[k]?=some s.data.toList[k]:=List.getElem?_eq_getElem h2
    have hm : mayB s=false:=by
      rw [mayB_all,List.all_eq_false]
      refine ⟨s.data.toList[k],List.getElem_mem h2,fun hc => ?_⟩
      simp only [Option.getD_some] at hbad
      rw [hc] at hbad
      cases hbad
    simp only [Option.getD_some] at hbad
    generalize s.data.toList[k]=b at *
    rw [hm,Bool.false_and]
    by_cases g1 : 32≤b.toNat
    · have k1 : decide ((b.toNat : Int) < 32) = false := decide_eq_false (by omega)
      have k2 : decide ((b.toNat : Int) > 126)=true:=decide_eq_true (by
        rw [decide_eq_true g1] at hbad
        simp at hbad; omega)
      have := S _ (by simp only [f56_b1, dec_lt hk, hb, byteR, k1, k2, go_sem, seval]
                      rfl) (by simp)
      rw [call_code F (show F 56=some (.code f56) from rfl)]
      simp only [f56,this,go_sem,seval]
    · have k1 : decide ((b.toNat : Int) < 32) = true := decide_eq_true (by omega)
      have := S _ (by simp only [f56_b1, dec_lt hk, hb, byteR, k1, go_sem, seval]
                      rfl) (by simp)
      rw [call_code F (show F 56=some (.code f56) from rfl)]
      simp only [f56,this,go_sem,seval]
def timesN (l : List Vx) (x : Dart) : Nat:=(l.map fun v => v.ring.count x).sum
theorem count_succ {r : List Dart} {k : Nat} (x : Dart) (h : k < r.length) : (r.take (k+1)).count x=(r.take k).count x+(if r[k]=x then 1 else 0):=by
  rw [List.take_succ_eq_append_getElem h,List.count_append,List.count_singleton]
  congr 1
  by_cases e : r[k]=x<;>simp [e]
theorem timesN_succ {l : List Vx} {i : Nat} (x : Dart) (h : i < l.length) : timesN (l.take (i+1)) x=timesN (l.take i) x+l[i].ring.count x:=by
  unfold timesN
  rw [List.take_succ_eq_append_getElem h,List.map_append,List.sum_append]; simp
theorem timesN_le {l : List Vx} (hr : FitsR l) (x : Dart) : ∀ i,timesN (l.take i) x≤i * 5864062014634
  | 0 => by simp [timesN]
  | i + 1 => by
    have:=timesN_le hr x i
    by_cases h : i < l.length
    · rw [timesN_succ x h]
      have h1 : l[i].ring.count x≤l[i].ring.length:=List.count_le_length
      have h2:=(hr _ (List.getElem_mem h)).le
      omega
    · rw [List.take_of_length_le (by omega),← List.take_of_length_le (show l.length≤i by omega)]; exact Nat.le_trans this (Nat.mul_le_mul_right _ (Nat.le_succ i))
theorem times_bound {i n c : Nat} (h : c≤i * 5864062014634) (hi : i < n) (hn : n≤100000) : c≤600000000000000000:=by omega
theorem times_l2 (l : List Vx) (es : List Ed) (x : Dart) (i m : Nat) (hi : i < l.length) (hr : Fits l[i].ring) (hm : m≤600000000000000000) : E (cs F) 0 f72_l2 (⟨(upd (upd (upd (upd (upd Sx.e0 7 (.v (.int .i64 (0)))) 6 (.v (.int .i64 ((i : Int))))) 5 (.v (.int .i64 ((m : Int))))) 3 (.p 3 0)) 2 (.p 2 0)),(upd (upd Sx.h0 3 (some (.var false [.v (.int .i64 x.e.s),.v (.int .i64 x.e.n),.v (.int .i64 x.d)]))) 2 (some (.var false [.v (.sl .shared 5 (rowsBy Vx.c l)),.v (.sl .shared 4 (rowsBy Ed.c es))])))⟩ : St) =
    some (.exit 2,(⟨(upd (upd (upd (upd Sx.e0 6 (.v (.int .i64 ((i : Int))))) 5 (.v (.int .i64 (((m+l[i].ring.count x : Nat) : Int))))) 3 (.p 3 0)) 2 (.p 2 0)),(upd (upd Sx.h0 3 (some (.var false [.v (.int .i64 x.e.s),.v (.int .i64 x.e.n),.v (.int .i64 x.d)]))) 2 (some (.var false [.v (.sl .shared 5 (rowsBy Vx.c l)),.v (.sl .shared 4 (rowsBy Ed.c es))])))⟩ : St)):=by
  have hle:=hr.le
  have hiz : (i : Int) < (l.length : Int):=by omega
  have key:=loop_to (C:=cs F) (lo:=0) (b:=f72_b2) (fun k => (⟨(upd (upd (upd (upd (upd Sx.e0 7 (.v (.int .i64 ((k : Int))))) 6 (.v (.int .i64 ((i : Int))))) 5 (.v (.int .i64 (((m+(l[i].ring.take k).count x : Nat) : Int))))) 3 (.p 3 0)) 2 (.p 2 0)),(upd (upd Sx.h0 3 (some (.var false [.v (.int .i64 x.e.s),.v (.int .i64 x.e.n),.v (.int .i64 x.d)]))) 2 (some (.var false [.v (.sl .shared 5 (rowsBy Vx.c l)),.v (.sl .shared 4 (rowsBy Ed.c es))])))⟩ : St)) l[i].ring.length (r:=(.exit 2,(⟨(upd (upd (upd (upd Sx.e0 6 (.v (.int .i64 ((i : Int))))) 5 (.v (.int .i64 (((m+l[i].ring.count x : Nat) : Int))))) 3 (.p 3 0)) 2 (.p 2 0)),(upd (upd Sx.h0 3 (some (.var false [.v (.int .i64 x.e.s),.v (.int .i64 x.e.n),.v (.int .i64 x.d)]))) 2 (some (.var false [.v (.sl .shared 5 (rowsBy Vx.c l)),.v (.sl .shared 4 (rowsBy Ed.c es))])))⟩ : St))) ?_ ?_ (by simp)
  · have e0 : m + (l[i].ring.take 0).count x = m := by simp
    simp only [e0] at key
    exact key
  · intro k hk
    have hkz : (k : Int) < (l[i].ring.length : Int):=by omega
    have hc : (l[i].ring.take k).count x≤l[i].ring.length:=by
      have h1 : (l[i].ring.take k).count x≤(l[i].ring.take k).length:=List.count_le_length
      rw [List.length_take] at h1; omega
    have hs:=count_succ x hk
    have hw : l[i].ring.length≤9223372036854775807:=by omega
    by_cases e : l[i].ring[k]=x
    · rw [if_pos e] at hs
      rw [hs,← Nat.add_assoc]
      have hm2 : m+(l[i].ring.take k).count x < 700000000000000000:=by omega
      generalize m+(l[i].ring.take k).count x=c at *
      simp only [f72_b2,hiz,rowsBy_get Vx.c hi,Vx.c,dec_lt hk,hkz,rowsBy_get Dart.c hk,Dart.c,dec_t e,dec_t e.symm,wrap_succ hk hw,wrap_succ hm2 (show 700000000000000000≤9223372036854775807 by omega),go_sem,seval]
    · rw [if_neg e] at hs
      rw [hs,Nat.add_zero]
      generalize m+(l[i].ring.take k).count x=c at *
      simp only [f72_b2,hiz,rowsBy_get Vx.c hi,Vx.c,dec_lt hk,hkz,rowsBy_get Dart.c hk,Dart.c,dec_f e,dec_f (Ne.symm e),wrap_succ hk hw,go_sem,seval]
  · rw [List.take_length]
    simp only [f72_b2,hiz,rowsBy_get Vx.c hi,Vx.c,dec_ge (Nat.le_refl l[i].ring.length),go_sem,seval]
theorem i_times (l : List Vx) (es : List Ed) (x : Dart) (hl : l.length≤100000) (hr : FitsR l) : call F 72 [.agg [.sl .shared 5 (rowsBy Vx.c l),.sl .shared 4 (rowsBy Ed.c es)],.agg [.int .i64 x.e.s,.int .i64 x.e.n,.int .i64 x.d]]=some (.int .i64 (timesN l x : Nat)):=by
  have hle:=hl
  have l1 : E (cs F) 0 f72_l1 (⟨(upd (upd (upd (upd Sx.e0 6 (.v (.int .i64 (0)))) 5 (.v (.int .i64 (0)))) 3 (.p 3 0)) 2 (.p 2 0)),(upd (upd Sx.h0 3 (some (.var false [.v (.int .i64 x.e.s),.v (.int .i64 x.e.n),.v (.int .i64 x.d)]))) 2 (some (.var false [.v (.sl .shared 5 (rowsBy Vx.c l)),.v (.sl .shared 4 (rowsBy Ed.c es))])))⟩ : St)=some (.exit 0,(⟨(upd Sx.e0 5 (.v (.int .i64 ((timesN l x : Int))))),Sx.h0⟩ : St)):=by
    refine loop_to (b:=f72_b1) (fun i => (⟨(upd (upd (upd (upd Sx.e0 6 (.v (.int .i64 ((i : Int))))) 5 (.v (.int .i64 (((timesN (l.take i) x : Nat) : Int))))) 3 (.p 3 0)) 2 (.p 2 0)),(upd (upd Sx.h0 3 (some (.var false [.v (.int .i64 x.e.s),.v (.int .i64 x.e.n),.v (.int .i64 x.d)]))) 2 (some (.var false [.v (.sl .shared 5 (rowsBy Vx.c l)),.v (.sl .shared 4 (rowsBy Ed.c es))])))⟩ : St)) l.length ?_ ?_ (by simp)
    · intro i hi
      have hiz : (i : Int) < (l.length : Int):=by omega
      have hb:=timesN_le hr x i
      have l2:=times_l2 l es x i (timesN (l.take i) x) hi (hr _ (List.getElem_mem hi)) (times_bound hb hi hle)
      rw [timesN_succ x hi]
      generalize timesN (l.take i) x=m at *
      simp only [f72_b1,dec_lt hi,hiz,l2,wrap_succ hi (show l.length≤9223372036854775807 by omega),go_sem,seval]
    · rw [List.take_length]
      simp only [f72_b1,dec_ge (Nat.le_refl l.length),go_sem,seval]
  rw [call_code F (show F 72=some (.code f72) from rfl)]
  simp only [f72,l1,go_sem,seval]
theorem i_IndexFunc_Vx (l : List Vx) (f : FuncId) (g : FuncId) (hl : Fits l) (p : Vx→Bool) (hp0 : ∀ v,v∈l→call F f (.agg [.int .i64 v.id.s,.int .i64 v.id.n,.sl .shared 3 (rowsBy Dart.c v.ring),.str v.label,.int .i64 v.attr] :: [.pc [.fn g []]])=some (.bool (p v))) : call F 81 [.sl .shared 5 (rowsBy Vx.c l),.fn f [.pc [.fn g []]]]=some (.int .i64 (if l.findIdx p=l.length then -1 else ((l.findIdx p : Nat) : Int))):=by
  have hle : (l).length≤5864062014634:=hl.le
  have hw : (l).length≤9223372036854775807:=Nat.le_trans hle (by decide)
  have S : ∀ n,n≤(l).length→(∀ i,i < n→∀ hi : i < (l).length,p (l)[i]=false)→∀ r,E (cs F) 0 f81_b1 (⟨(upd (upd (upd (upd Sx.e0 8 (.v (.int .i64 ((n : Int))))) 7 (.v (.int .i64 ((l.length : Int))))) 1 (.v (.fn f [.pc [.fn g []]]))) 0 (.v (.sl .shared 5 (rowsBy Vx.c l)))),Sx.h0⟩ : St)=some r→r.1≠.norm →
      E (cs F) 0 f81_l1 (⟨(upd (upd (upd (upd Sx.e0 8 (.v (.int .i64 (0)))) 7 (.v (.int .i64 ((l.length : Int))))) 1 (.v (.fn f [.pc [.fn g []]]))) 0 (.v (.sl .shared 5 (rowsBy Vx.c l)))),Sx.h0⟩ : St)=some r:=by
    intro n hn hno r hf hrr
    refine loop_to (b:=f81_b1) (fun i => (⟨(upd (upd (upd (upd Sx.e0 8 (.v (.int .i64 ((i : Int))))) 7 (.v (.int .i64 ((l.length : Int))))) 1 (.v (.fn f [.pc [.fn g []]]))) 0 (.v (.sl .shared 5 (rowsBy Vx.c l)))),Sx.h0⟩ : St)) n ?_ hf hrr
    intro i hi
    have h1 : i < (l).length:=Nat.lt_of_lt_of_le hi hn
    have h1z : (i : Int) < ((l).length : Int):=Int.ofNat_lt.2 h1
    have hne:=hno i hi h1
    have hv:=hp0 l[i] (List.getElem_mem h1)
    rw [hne] at hv
    simp only [f81_b1,dec_lt h1,h1z,rowsBy_get Vx.c h1,Vx.c,hv,wrap_succ h1 hw,go_sem,seval]
  have S:=S ((l).findIdx p) List.findIdx_le_length (fun i h1 h2 => findIdx_not h1 h2)
  rcases findIdx_cases p (l) with h0 | ⟨hlt,hp⟩
  · rw [h0] at S
    have := S _ (by simp only [f81_b1, dec_ge (Nat.le_refl (l).length), go_sem, seval]
                    rfl) (by simp)
    rw [if_pos h0]
    rw [call_code F (show F 81=some (.code f81) from rfl)]
    simp only [f81,this,go_sem,seval]
  · rw [if_neg (show ¬ l.findIdx p = l.length by omega)]
    generalize (l).findIdx p=n at *
    have hltz : (n : Int) < ((l).length : Int):=Int.ofNat_lt.2 hlt
    have hv:=hp0 l[n] (List.getElem_mem hlt)
    rw [hp] at hv
    have := S _ (by simp only [f81_b1, dec_lt hlt, hltz, rowsBy_get Vx.c hlt, Vx.c, hv, go_sem, seval]
                    rfl) (by simp)
    rw [call_code F (show F 81=some (.code f81) from rfl)]
    simp only [f81,this,go_sem,seval]
theorem i_ContainsFunc_Vx (l : List Vx) (f : FuncId) (g : FuncId) (hl : Fits l) (p : Vx→Bool) (hp0 : ∀ v,v∈l→call F f (.agg [.int .i64 v.id.s,.int .i64 v.id.n,.sl .shared 3 (rowsBy Dart.c v.ring),.str v.label,.int .i64 v.attr] :: [.pc [.fn g []]])=some (.bool (p v))) : call F 63 [.sl .shared 5 (rowsBy Vx.c l),.fn f [.pc [.fn g []]]]=some (.bool (l.any p)):=by
  have ix:=i_IndexFunc_Vx l f g hl p hp0
  rcases findIdx_cases p l with h0 | ⟨hlt,hp⟩
  · rw [if_pos h0] at ix
    rw [show l.any p=false by
      rw [List.any_eq_false]
      intro v hv
      obtain ⟨i,hi,rfl⟩:=List.mem_iff_getElem.1 hv
      rw [findIdx_not (p:=p) (by omega) hi]; simp]
    rw [call_code F (show F 63=some (.code f63) from rfl)]
    simp only [f63,ix,go_sem,seval]
  · rw [if_neg (show ¬ l.findIdx p = l.length by omega)] at ix
    rw [show l.any p=true by rw [List.any_eq_true]; exact ⟨_,List.getElem_mem hlt,hp⟩]
    have hq : decide (((l.findIdx p : Nat) : Int) ≥ 0)=true:=by simp
    generalize l.findIdx p=n at *
    rw [call_code F (show F 63=some (.code f63) from rfl)]
    simp only [f63,ix,hq,go_sem,seval]
theorem i_IndexFunc_Ed (l : List Ed) (f : FuncId) (g : FuncId) (hl : Fits l) (p : Ed→Bool) (hp0 : ∀ v,v∈l→call F f (.agg [.int .i64 v.id.s,.int .i64 v.id.n,.str v.label,.int .i64 v.attr] :: [.pc [.fn g []]])=some (.bool (p v))) : call F 82 [.sl .shared 4 (rowsBy Ed.c l),.fn f [.pc [.fn g []]]]=some (.int .i64 (if l.findIdx p=l.length then -1 else ((l.findIdx p : Nat) : Int))):=by
  have hle : (l).length≤5864062014634:=hl.le
  have hw : (l).length≤9223372036854775807:=Nat.le_trans hle (by decide)
  have S : ∀ n,n≤(l).length→(∀ i,i < n→∀ hi : i < (l).length,p (l)[i]=false)→∀ r,E (cs F) 0 f82_b1 (⟨(upd (upd (upd (upd Sx.e0 8 (.v (.int .i64 ((n : Int))))) 7 (.v (.int .i64 ((l.length : Int))))) 1 (.v (.fn f [.pc [.fn g []]]))) 0 (.v (.sl .shared 4 (rowsBy Ed.c l)))),Sx.h0⟩ : St)=some r→r.1≠.norm →
      E (cs F) 0 f82_l1 (⟨(upd (upd (upd (upd Sx.e0 8 (.v (.int .i64 (0)))) 7 (.v (.int .i64 ((l.length : Int))))) 1 (.v (.fn f [.pc [.fn g []]]))) 0 (.v (.sl .shared 4 (rowsBy Ed.c l)))),Sx.h0⟩ : St)=some r:=by
    intro n hn hno r hf hrr
    refine loop_to (b:=f82_b1) (fun i => (⟨(upd (upd (upd (upd Sx.e0 8 (.v (.int .i64 ((i : Int))))) 7 (.v (.int .i64 ((l.length : Int))))) 1 (.v (.fn f [.pc [.fn g []]]))) 0 (.v (.sl .shared 4 (rowsBy Ed.c l)))),Sx.h0⟩ : St)) n ?_ hf hrr
    intro i hi
    have h1 : i < (l).length:=Nat.lt_of_lt_of_le hi hn
    have h1z : (i : Int) < ((l).length : Int):=Int.ofNat_lt.2 h1
    have hne:=hno i hi h1
    have hv:=hp0 l[i] (List.getElem_mem h1)
    rw [hne] at hv
    simp only [f82_b1,dec_lt h1,h1z,rowsBy_get Ed.c h1,Ed.c,hv,wrap_succ h1 hw,go_sem,seval]
  have S:=S ((l).findIdx p) List.findIdx_le_length (fun i h1 h2 => findIdx_not h1 h2)
  rcases findIdx_cases p (l) with h0 | ⟨hlt,hp⟩
  · rw [h0] at S
    have := S _ (by simp only [f82_b1, dec_ge (Nat.le_refl (l).length), go_sem, seval]
                    rfl) (by simp)
    rw [if_pos h0]
    rw [call_code F (show F 82=some (.code f82) from rfl)]
    simp only [f82,this,go_sem,seval]
  · rw [if_neg (show ¬ l.findIdx p = l.length by omega)]
    generalize (l).findIdx p=n at *
    have hltz : (n : Int) < ((l).length : Int):=Int.ofNat_lt.2 hlt
    have hv:=hp0 l[n] (List.getElem_mem hlt)
    rw [hp] at hv
    have := S _ (by simp only [f82_b1, dec_lt hlt, hltz, rowsBy_get Ed.c hlt, Ed.c, hv, go_sem, seval]
                    rfl) (by simp)
    rw [call_code F (show F 82=some (.code f82) from rfl)]
    simp only [f82,this,go_sem,seval]
theorem i_ContainsFunc_Ed (l : List Ed) (f : FuncId) (g : FuncId) (hl : Fits l) (p : Ed→Bool) (hp0 : ∀ v,v∈l→call F f (.agg [.int .i64 v.id.s,.int .i64 v.id.n,.str v.label,.int .i64 v.attr] :: [.pc [.fn g []]])=some (.bool (p v))) : call F 65 [.sl .shared 4 (rowsBy Ed.c l),.fn f [.pc [.fn g []]]]=some (.bool (l.any p)):=by
  have ix:=i_IndexFunc_Ed l f g hl p hp0
  rcases findIdx_cases p l with h0 | ⟨hlt,hp⟩
  · rw [if_pos h0] at ix
    rw [show l.any p=false by
      rw [List.any_eq_false]
      intro v hv
      obtain ⟨i,hi,rfl⟩:=List.mem_iff_getElem.1 hv
      rw [findIdx_not (p:=p) (by omega) hi]; simp]
    rw [call_code F (show F 65=some (.code f65) from rfl)]
    simp only [f65,ix,go_sem,seval]
  · rw [if_neg (show ¬ l.findIdx p = l.length by omega)] at ix
    rw [show l.any p=true by rw [List.any_eq_true]; exact ⟨_,List.getElem_mem hlt,hp⟩]
    have hq : decide (((l.findIdx p : Nat) : Int) ≥ 0)=true:=by simp
    generalize l.findIdx p=n at *
    rw [call_code F (show F 65=some (.code f65) from rfl)]
    simp only [f65,ix,hq,go_sem,seval]
theorem i_some1 (v : Vx) (g : FuncId) (b : Bool) (hg : call F g [.str v.label,.int .i64 v.attr]=some (.bool b)) : call F 64 [.agg [.int .i64 v.id.s,.int .i64 v.id.n,.sl .shared 3 (rowsBy Dart.c v.ring),.str v.label,.int .i64 v.attr],.pc [.fn g []]]=some (.bool b):=by
  rw [call_code F (show F 64=some (.code f64) from rfl)]
  simp only [f64,hg,go_sem,seval]
theorem i_some2 (v : Ed) (g : FuncId) (b : Bool) (hg : call F g [.str v.label,.int .i64 v.attr]=some (.bool b)) : call F 66 [.agg [.int .i64 v.id.s,.int .i64 v.id.n,.str v.label,.int .i64 v.attr],.pc [.fn g []]]=some (.bool b):=by
  rw [call_code F (show F 66=some (.code f66) from rfl)]
  simp only [f66,hg,go_sem,seval]
theorem i_some (vs : List Vx) (es : List Ed) (hv : Fits vs) (he : Fits es) (g : FuncId) (q : ByteArray→Int→Bool) (hg : ∀ s n,call F g [.str s,.int .i64 n]=some (.bool (q s n))) :
    call F 47 [.agg [.sl .shared 5 (rowsBy Vx.c vs),.sl .shared 4 (rowsBy Ed.c es)],.fn g []]=some (.bool (vs.any (fun v => q v.label v.attr) || es.any (fun v => q v.label v.attr))):=by
  have c1:=i_ContainsFunc_Vx vs 64 g hv (fun v => q v.label v.attr) (fun v _ => i_some1 v g _ (hg _ _))
  have c2:=i_ContainsFunc_Ed es 66 g he (fun v => q v.label v.attr) (fun v _ => i_some2 v g _ (hg _ _))
  cases hb : vs.any (fun v => q v.label v.attr) with
  | true =>
    rw [hb] at c1
    rw [Bool.true_or]
    rw [call_code F (show F 47=some (.code f47) from rfl)]
    simp only [f47,c1,c2,go_sem,seval]
  | false =>
    rw [hb] at c1
    rw [Bool.false_or]
    rw [call_code F (show F 47=some (.code f47) from rfl)]
    simp only [f47,c1,c2,go_sem,seval]
theorem c_MayLabel (s : ByteArray) : call F 49 [.str s]=some (.bool (mayB s && decide ((s.size : Int)≤16))):=by
  rw [call_ext F (show F 49=some (.ext mayG) from rfl)]; rfl
def mayLab (s : ByteArray) : Bool:=mayB s && decide ((s.size : Int)≤16)
def mayAtt (n : Int) : Bool:=decide (n ≥ -1099511627776) && decide (n≤1099511627776)
theorem i_Form1 (s : ByteArray) (n : Int) : call F 48 [.str s,.int .i64 n]=some (.bool (!mayLab s)):=by
  have c:=c_MayLabel s
  rw [show (mayB s && decide ((s.size : Int)≤16))=mayLab s from rfl] at c
  generalize mayLab s=b at *
  rw [call_code F (show F 48=some (.code f48) from rfl)]
  simp only [f48,c,go_sem,seval]
theorem i_Form2 (s : ByteArray) (n : Int) : call F 50 [.str s,.int .i64 n]=some (.bool (!mayAtt n)):=by
  have c:=c_MayAttr n
  rw [show (decide (n ≥ -1099511627776) && decide (n≤1099511627776))=mayAtt n from rfl] at c
  generalize mayAtt n=b at *
  rw [call_code F (show F 50=some (.code f50) from rfl)]
  simp only [f50,c,go_sem,seval]
theorem names_l1 (l : List Vx) (es : List Ed) (hl : Fits l) : E (cs F) 0 f53_l1 (⟨(upd (upd (upd Sx.e0 4 (.v (.int .i64 (0)))) 3 (.s 3 0 0)) 1 (.p 1 0)),(upd (upd Sx.h0 3 (some (.arr false 34 2 []))) 1 (some (.var false [.v (.sl .shared 5 (rowsBy Vx.c l)),.v (.sl .shared 4 (rowsBy Ed.c es))])))⟩ : St) =
    some (.exit 0,(⟨(upd (upd Sx.e0 3 (.s 3 0 (l.map Vx.id).length)) 1 (.p 1 0)),(upd (upd Sx.h0 3 (some (.arr false 34 2 (rowsBy ID.c (l.map Vx.id))))) 1 (some (.var false [.v (.sl .shared 5 (rowsBy Vx.c l)),.v (.sl .shared 4 (rowsBy Ed.c es))])))⟩ : St)):=by
  have hle:=hl.le
  refine loop_to (b:=f53_b1) (fun i => (⟨(upd (upd (upd Sx.e0 4 (.v (.int .i64 ((i : Int))))) 3 (.s 3 0 ((l.take i).map Vx.id).length)) 1 (.p 1 0)),(upd (upd Sx.h0 3 (some (.arr false 34 2 (rowsBy ID.c ((l.take i).map Vx.id))))) 1 (some (.var false [.v (.sl .shared 5 (rowsBy Vx.c l)),.v (.sl .shared 4 (rowsBy Ed.c es))])))⟩ : St)) l.length ?_ ?_ (by simp)
  · intro i hi
    have h1z : (i : Int) < (l.length : Int):=by omega
    have hs : (l.take (i+1)).map Vx.id=(l.take i).map Vx.id++[l[i].id]:=by rw [List.take_succ_eq_append_getElem hi,List.map_append]; rfl
    have hml : ((l.take i).map Vx.id).length≤i:=by rw [List.length_map,List.length_take]; omega
    have h5 : (((l.take i).map Vx.id).length+1) * 16≤140737488355328:=by omega
    rw [hs]
    generalize (l.take i).map Vx.id=m at *
    have e2 : (m++[l[i].id]).length=m.length+1:=by rw [List.length_append]; rfl
    rw [e2]
    have e3 : rowsBy ID.c m++[[.int .i64 l[i].id.s,.int .i64 l[i].id.n]]=rowsBy ID.c (m++[l[i].id]):=rowsBy_snoc ID.c m l[i].id
    simp only [f53_b1,dec_lt hi,h1z,rowsBy_get Vx.c hi,Vx.c,h5,e3,wrap_succ hi (show l.length≤9223372036854775807 by omega),List.take_length,go_sem,seval]
  · rw [List.take_length]
    simp only [f53_b1,dec_ge (Nat.le_refl l.length),go_sem,seval]
theorem names_l2 (l : List Vx) (es : List Ed) (hl : l.length≤100000) (he : Fits es) : E (cs F) 0 f53_l2 (⟨(upd (upd (upd Sx.e0 5 (.v (.int .i64 (0)))) 3 (.s 3 0 (l.map Vx.id).length)) 1 (.p 1 0)),(upd (upd Sx.h0 3 (some (.arr false 34 2 (rowsBy ID.c (l.map Vx.id))))) 1 (some (.var false [.v (.sl .shared 5 (rowsBy Vx.c l)),.v (.sl .shared 4 (rowsBy Ed.c es))])))⟩ : St) =
    some (.exit 2,(⟨(upd Sx.e0 3 (.s 3 0 (l.map Vx.id++es.map Ed.id).length)),(upd Sx.h0 3 (some (.arr false 34 2 (rowsBy ID.c (l.map Vx.id++es.map Ed.id)))))⟩ : St)):=by
  have hle:=hl
  have hee:=he.le
  have key:=loop_to (C:=cs F) (lo:=0) (b:=f53_b2) (fun i => (⟨(upd (upd (upd Sx.e0 5 (.v (.int .i64 ((i : Int))))) 3 (.s 3 0 (l.map Vx.id++(es.take i).map Ed.id).length)) 1 (.p 1 0)),(upd (upd Sx.h0 3 (some (.arr false 34 2 (rowsBy ID.c (l.map Vx.id++(es.take i).map Ed.id))))) 1 (some (.var false [.v (.sl .shared 5 (rowsBy Vx.c l)),.v (.sl .shared 4 (rowsBy Ed.c es))])))⟩ : St)) es.length (r:=(.exit 2,(⟨(upd Sx.e0 3 (.s 3 0 (l.map Vx.id++es.map Ed.id).length)),(upd Sx.h0 3 (some (.arr false 34 2 (rowsBy ID.c (l.map Vx.id++es.map Ed.id)))))⟩ : St))) ?_ ?_ (by simp)
  · have e0 : l.map Vx.id ++ (es.take 0).map Ed.id = l.map Vx.id := by simp
    simp only [e0] at key
    exact key
  · intro i hi
    have h1z : (i : Int) < (es.length : Int):=by omega
    have hs : (es.take (i+1)).map Ed.id=(es.take i).map Ed.id++[es[i].id]:=by rw [List.take_succ_eq_append_getElem hi,List.map_append]; rfl
    have hml : ((es.take i).map Ed.id).length≤i:=by rw [List.length_map,List.length_take]; omega
    have h5 : ((l.map Vx.id++(es.take i).map Ed.id).length+1) * 16≤140737488355328:=by rw [List.length_append,List.length_map]; omega
    rw [hs,← List.append_assoc]
    generalize l.map Vx.id++(es.take i).map Ed.id=m at *
    have e2 : (m++[es[i].id]).length=m.length+1:=by rw [List.length_append]; rfl
    rw [e2]
    have e3 : rowsBy ID.c m++[[.int .i64 es[i].id.s,.int .i64 es[i].id.n]]=rowsBy ID.c (m++[es[i].id]):=rowsBy_snoc ID.c m es[i].id
    simp only [f53_b2,dec_lt hi,h1z,rowsBy_get Ed.c hi,Ed.c,h5,e3,wrap_succ hi (show es.length≤9223372036854775807 by omega),List.take_length,go_sem,seval]
  · rw [List.take_length]
    simp only [f53_b2,dec_ge (Nat.le_refl es.length),go_sem,seval]
theorem i_r04_Names (l : List Vx) (es : List Ed) (hl : l.length≤100000) (he : Fits es) : call F 53 [.agg [.sl .shared 5 (rowsBy Vx.c l),.sl .shared 4 (rowsBy Ed.c es)]]=some (.sl (.own 34) 2 (rowsBy ID.c (l.map Vx.id++es.map Ed.id))):=by
  have l1:=names_l1 l es (Fits.of (by omega))
  have l2:=names_l2 l es hl he
  generalize l.map Vx.id=m at *
  generalize es.map Ed.id=k at *
  rw [call_code F (show F 53=some (.code f53) from rfl)]
  simp only [f53,l1,l2,go_sem,seval]
def badDart (es : List Ed) (x : Dart) : Bool:=(edBy es x.e).isNone || (decide (x.d < 0) || decide (x.d > 1))
theorem rings_l2 (l : List Vx) (es : List Ed) (he : Fits es) (i : Nat) (r : List Dart) (hr : Fits r) : E (cs F) 0 f55_l2 (⟨(upd (upd (upd (upd Sx.e0 6 (.v (.int .i64 (0)))) 4 (.v (.sl .shared 3 (rowsBy Dart.c r)))) 3 (.v (.int .i64 ((i : Int))))) 1 (.p 1 0)),(upd Sx.h0 1 (some (.var false [.v (.sl .shared 5 (rowsBy Vx.c l)),.v (.sl .shared 4 (rowsBy Ed.c es))])))⟩ : St) =
    some (if r.any (badDart es) then (.ret,(⟨(upd Sx.e0 2 (.v (.bool false))),Sx.h0⟩ : St)) else (.exit 2,(⟨(upd (upd Sx.e0 3 (.v (.int .i64 ((i : Int))))) 1 (.p 1 0)),(upd Sx.h0 1 (some (.var false [.v (.sl .shared 5 (rowsBy Vx.c l)),.v (.sl .shared 4 (rowsBy Ed.c es))])))⟩ : St))):=by
  have hle:=hr.le
  have hw : r.length≤9223372036854775807:=by omega
  have S : ∀ n,n≤r.length→(∀ k,k < n→∀ h : k < r.length,badDart es r[k]=false)→∀ q,E (cs F) 0 f55_b2 (⟨(upd (upd (upd (upd Sx.e0 6 (.v (.int .i64 ((n : Int))))) 4 (.v (.sl .shared 3 (rowsBy Dart.c r)))) 3 (.v (.int .i64 ((i : Int))))) 1 (.p 1 0)),(upd Sx.h0 1 (some (.var false [.v (.sl .shared 5 (rowsBy Vx.c l)),.v (.sl .shared 4 (rowsBy Ed.c es))])))⟩ : St)=some q→q.1≠.norm →
      E (cs F) 0 f55_l2 (⟨(upd (upd (upd (upd Sx.e0 6 (.v (.int .i64 (0)))) 4 (.v (.sl .shared 3 (rowsBy Dart.c r)))) 3 (.v (.int .i64 ((i : Int))))) 1 (.p 1 0)),(upd Sx.h0 1 (some (.var false [.v (.sl .shared 5 (rowsBy Vx.c l)),.v (.sl .shared 4 (rowsBy Ed.c es))])))⟩ : St)=some q:=by
    intro n hn hno q hf hq
    refine loop_to (b:=f55_b2) (fun k => (⟨(upd (upd (upd (upd Sx.e0 6 (.v (.int .i64 ((k : Int))))) 4 (.v (.sl .shared 3 (rowsBy Dart.c r)))) 3 (.v (.int .i64 ((i : Int))))) 1 (.p 1 0)),(upd Sx.h0 1 (some (.var false [.v (.sl .shared 5 (rowsBy Vx.c l)),.v (.sl .shared 4 (rowsBy Ed.c es))])))⟩ : St)) n ?_ hf hq
    intro k hk
    have h1 : k < r.length:=by omega
    have h1z : (k : Int) < (r.length : Int):=by omega
    have hb:=hno k hk h1
    unfold badDart at hb
    simp only [Bool.or_eq_false_iff] at hb
    obtain ⟨b1,b2,b3⟩:=hb
    have hv:=i_r04_Edge es r[k].e he l
    cases hc : edBy es r[k].e with
    | none => rw [hc] at b1; cases b1
    | some v =>
      rw [hc] at hv
      simp only [edT] at hv
      simp only [f55_b2,dec_lt h1,h1z,rowsBy_get Dart.c h1,Dart.c,hv,b2,b3,wrap_succ h1 hw,go_sem,seval]
  rcases findIdx_cases (badDart es) r with h0 | ⟨hlt,hp⟩
  · have S := S r.length (Nat.le_refl _) (fun k hk h => findIdx_not (p := badDart es) (by omega) h)
    rw [show r.any (badDart es)=false by
      rw [List.any_eq_false]
      intro v hv
      obtain ⟨k,hk,rfl⟩:=List.mem_iff_getElem.1 hv
      rw [findIdx_not (p:=badDart es) (by omega) hk]; simp]
    rw [if_neg (by simp)]
    exact S _ (by simp only [f55_b2,dec_ge (Nat.le_refl r.length),go_sem,seval]) (by simp)
  · have S := S (r.findIdx (badDart es)) (Nat.le_of_lt hlt) (fun k hk h => findIdx_not (p := badDart es) hk h)
    rw [show r.any (badDart es)=true by rw [List.any_eq_true]; exact ⟨_,List.getElem_mem hlt,hp⟩]
    rw [if_pos rfl]
    generalize r.findIdx (badDart es)=k at *
    have h1z : (k : Int) < (r.length : Int):=by omega
    have hv:=i_r04_Edge es r[k].e he l
    unfold badDart at hp
    cases hc : edBy es r[k].e with
    | none =>
      rw [hc] at hv
      simp only [edT] at hv
      exact S _ (by simp only [f55_b2,dec_lt hlt,h1z,rowsBy_get Dart.c hlt,Dart.c,hv,go_sem,seval]) (by simp)
    | some v =>
      rw [hc] at hv hp
      simp only [edT] at hv
      by_cases g : r[k].d < 0
      · exact S _ (by simp only [f55_b2,dec_lt hlt,h1z,rowsBy_get Dart.c hlt,Dart.c,hv,dec_t g,go_sem,seval]) (by simp)
      · have g2 : r[k].d > 1:=by
          rw [dec_f g] at hp
          simpa using hp
        exact S _ (by simp only [f55_b2,dec_lt hlt,h1z,rowsBy_get Dart.c hlt,Dart.c,hv,dec_f g,dec_t g2,go_sem,seval]) (by simp)
def badVx (es : List Ed) (v : Vx) : Bool:=!decide (v.ring=turn v.ring) || v.ring.any (badDart es)
def badEd (l : List Vx) (e : Ed) : Bool:=decide (¬ timesN l ⟨e.id,0⟩=1) || decide (¬ timesN l ⟨e.id,1⟩=1)
theorem rings_l1 (l : List Vx) (es : List Ed) (hl : Fits l) (hr : FitsR l) (he : Fits es) : E (cs F) 0 f55_l1 (⟨(upd (upd Sx.e0 3 (.v (.int .i64 (0)))) 1 (.p 1 0)),(upd Sx.h0 1 (some (.var false [.v (.sl .shared 5 (rowsBy Vx.c l)),.v (.sl .shared 4 (rowsBy Ed.c es))])))⟩ : St) =
    some (if l.any (badVx es) then (.ret,(⟨(upd Sx.e0 2 (.v (.bool false))),Sx.h0⟩ : St)) else (.exit 0,(⟨(upd Sx.e0 1 (.p 1 0)),(upd Sx.h0 1 (some (.var false [.v (.sl .shared 5 (rowsBy Vx.c l)),.v (.sl .shared 4 (rowsBy Ed.c es))])))⟩ : St))):=by
  have hle:=hl.le
  have hw : l.length≤9223372036854775807:=by omega
  have S : ∀ n,n≤l.length→(∀ k,k < n→∀ h : k < l.length,badVx es l[k]=false)→∀ q,E (cs F) 0 f55_b1 (⟨(upd (upd Sx.e0 3 (.v (.int .i64 ((n : Int))))) 1 (.p 1 0)),(upd Sx.h0 1 (some (.var false [.v (.sl .shared 5 (rowsBy Vx.c l)),.v (.sl .shared 4 (rowsBy Ed.c es))])))⟩ : St)=some q→q.1≠.norm →
      E (cs F) 0 f55_l1 (⟨(upd (upd Sx.e0 3 (.v (.int .i64 (0)))) 1 (.p 1 0)),(upd Sx.h0 1 (some (.var false [.v (.sl .shared 5 (rowsBy Vx.c l)),.v (.sl .shared 4 (rowsBy Ed.c es))])))⟩ : St)=some q:=by
    intro n hn hno q hf hq
    refine loop_to (b:=f55_b1) (fun k => (⟨(upd (upd Sx.e0 3 (.v (.int .i64 ((k : Int))))) 1 (.p 1 0)),(upd Sx.h0 1 (some (.var false [.v (.sl .shared 5 (rowsBy Vx.c l)),.v (.sl .shared 4 (rowsBy Ed.c es))])))⟩ : St)) n ?_ hf hq
    intro k hk
    have h1 : k < l.length:=by omega
    have h1z : (k : Int) < (l.length : Int):=by omega
    have hb:=hno k hk h1
    unfold badVx at hb
    rw [Bool.or_eq_false_iff] at hb
    have b1 : decide (l[k].ring=turn l[k].ring)=true:=by simpa using hb.1
    have hfr:=hr _ (List.getElem_mem h1)
    have ct:=c_r03_Turn l[k].ring hfr
    have cd:=c_r03_Darts l[k].ring (turn l[k].ring) hfr
    rw [b1] at cd
    have l2:=rings_l2 l es he k l[k].ring hfr
    rw [hb.2,if_neg (by simp)] at l2
    generalize turn l[k].ring=u at *
    simp only [f55_b1,dec_lt h1,h1z,rowsBy_get Vx.c h1,Vx.c,ct,cd,l2,wrap_succ h1 hw,go_sem,seval]
  rcases findIdx_cases (badVx es) l with h0 | ⟨hlt,hp⟩
  · have S := S l.length (Nat.le_refl _) (fun k hk h => findIdx_not (p := badVx es) (by omega) h)
    rw [show l.any (badVx es)=false by
      rw [List.any_eq_false]
      intro v hv
      obtain ⟨k,hk,rfl⟩:=List.mem_iff_getElem.1 hv
      rw [findIdx_not (p:=badVx es) (by omega) hk]; simp]
    rw [if_neg (by simp)]
    exact S _ (by simp only [f55_b1,dec_ge (Nat.le_refl l.length),go_sem,seval]) (by simp)
  · have S := S (l.findIdx (badVx es)) (Nat.le_of_lt hlt) (fun k hk h => findIdx_not (p := badVx es) hk h)
    rw [show l.any (badVx es)=true by rw [List.any_eq_true]; exact ⟨_,List.getElem_mem hlt,hp⟩]
    rw [if_pos rfl]
    generalize l.findIdx (badVx es)=k at *
    have h1z : (k : Int) < (l.length : Int):=by omega
    have hfr:=hr _ (List.getElem_mem hlt)
    have ct:=c_r03_Turn l[k].ring hfr
    have cd:=c_r03_Darts l[k].ring (turn l[k].ring) hfr
    have l2:=rings_l2 l es he k l[k].ring hfr
    unfold badVx at hp
    by_cases g : l[k].ring=turn l[k].ring
    · rw [dec_t g] at cd hp
      rw [show l[k].ring.any (badDart es)=true by simpa using hp,if_pos rfl] at l2
      generalize turn l[k].ring=u at *
      exact S _ (by simp only [f55_b1,dec_lt hlt,h1z,rowsBy_get Vx.c hlt,Vx.c,ct,cd,l2,go_sem,seval]) (by simp)
    · rw [dec_f g] at cd
      generalize turn l[k].ring=u at *
      exact S _ (by simp only [f55_b1,dec_lt hlt,h1z,rowsBy_get Vx.c hlt,Vx.c,ct,cd,go_sem,seval]) (by simp)
theorem rings_l4 (l : List Vx) (es : List Ed) (hl : l.length≤100000) (hr : FitsR l) (i : Nat) (hi : i < es.length) : E (cs F) 0 f55_l4 (⟨(upd (upd (upd Sx.e0 10 (.v (.int .i64 (0)))) 9 (.v (.int .i64 ((i : Int))))) 1 (.p 1 0)),(upd Sx.h0 1 (some (.var false [.v (.sl .shared 5 (rowsBy Vx.c l)),.v (.sl .shared 4 (rowsBy Ed.c es))])))⟩ : St) =
    some (if badEd l es[i] then (.ret,(⟨(upd Sx.e0 2 (.v (.bool false))),Sx.h0⟩ : St)) else (.exit 6,(⟨(upd (upd Sx.e0 9 (.v (.int .i64 ((i : Int))))) 1 (.p 1 0)),(upd Sx.h0 1 (some (.var false [.v (.sl .shared 5 (rowsBy Vx.c l)),.v (.sl .shared 4 (rowsBy Ed.c es))])))⟩ : St))):=by
  have hiz : (i : Int) < (es.length : Int):=by omega
  have t0:=i_times l es ⟨es[i].id,0⟩ hl hr
  have t1:=i_times l es ⟨es[i].id,1⟩ hl hr
  unfold badEd
  generalize timesN l ⟨es[i].id,0⟩=a at *
  generalize timesN l ⟨es[i].id,1⟩=b at *
  rw [f55_l4_eq]
  by_cases ha : a=1
  · have ka : decide (¬ ((a : Int) = 1)) = false := decide_eq_false (by omega)
    rw [dec_f (show ¬ ¬ a=1 by omega)]
    by_cases hb : b=1
    · have kb : decide (¬ ((b : Int) = 1)) = false := decide_eq_false (by omega)
      rw [dec_f (show ¬ ¬ b=1 by omega),if_neg (by simp)]
      simp only [f55_b4,hiz,rowsBy_get Ed.c hi,Ed.c,t0,ka,show IntKind.i64.wrap 1=1 from rfl,go_sem,seval]
      rw [f55_l4_eq]
      simp only [f55_b4,hiz,rowsBy_get Ed.c hi,Ed.c,t1,kb,show IntKind.i64.wrap 2=2 from rfl,go_sem,seval]
      rw [f55_l4_eq]
      simp only [f55_b4,go_sem,seval]
    · have kb : decide (¬ ((b : Int) = 1)) = true := decide_eq_true (by omega)
      rw [dec_t hb,if_pos (by simp)]
      simp only [f55_b4,hiz,rowsBy_get Ed.c hi,Ed.c,t0,ka,show IntKind.i64.wrap 1=1 from rfl,go_sem,seval]
      rw [f55_l4_eq]
      simp only [f55_b4,hiz,rowsBy_get Ed.c hi,Ed.c,t1,kb,go_sem,seval]
  · have ka : decide (¬ ((a : Int) = 1)) = true := decide_eq_true (by omega)
    rw [dec_t ha,if_pos (by simp)]
    simp only [f55_b4,hiz,rowsBy_get Ed.c hi,Ed.c,t0,ka,go_sem,seval]
theorem rings_l3 (l : List Vx) (es : List Ed) (hl : l.length≤100000) (hr : FitsR l) (he : Fits es) : E (cs F) 0 f55_l3 (⟨(upd (upd Sx.e0 9 (.v (.int .i64 (0)))) 1 (.p 1 0)),(upd Sx.h0 1 (some (.var false [.v (.sl .shared 5 (rowsBy Vx.c l)),.v (.sl .shared 4 (rowsBy Ed.c es))])))⟩ : St) =
    some (if es.any (badEd l) then (.ret,(⟨(upd Sx.e0 2 (.v (.bool false))),Sx.h0⟩ : St)) else (.exit 4,(⟨Sx.e0,Sx.h0⟩ : St))):=by
  have hle:=he.le
  have hw : es.length≤9223372036854775807:=by omega
  have S : ∀ n,n≤es.length→(∀ k,k < n→∀ h : k < es.length,badEd l es[k]=false)→∀ q,E (cs F) 0 f55_b3 (⟨(upd (upd Sx.e0 9 (.v (.int .i64 ((n : Int))))) 1 (.p 1 0)),(upd Sx.h0 1 (some (.var false [.v (.sl .shared 5 (rowsBy Vx.c l)),.v (.sl .shared 4 (rowsBy Ed.c es))])))⟩ : St)=some q→q.1≠.norm →
      E (cs F) 0 f55_l3 (⟨(upd (upd Sx.e0 9 (.v (.int .i64 (0)))) 1 (.p 1 0)),(upd Sx.h0 1 (some (.var false [.v (.sl .shared 5 (rowsBy Vx.c l)),.v (.sl .shared 4 (rowsBy Ed.c es))])))⟩ : St)=some q:=by
    intro n hn hno q hf hq
    refine loop_to (b:=f55_b3) (fun k => (⟨(upd (upd Sx.e0 9 (.v (.int .i64 ((k : Int))))) 1 (.p 1 0)),(upd Sx.h0 1 (some (.var false [.v (.sl .shared 5 (rowsBy Vx.c l)),.v (.sl .shared 4 (rowsBy Ed.c es))])))⟩ : St)) n ?_ hf hq
    intro k hk
    have h1 : k < es.length:=by omega
    have l4:=rings_l4 l es hl hr k h1
    rw [hno k hk h1,if_neg (by simp)] at l4
    simp only [f55_b3,dec_lt h1,l4,wrap_succ h1 hw,go_sem,seval]
  rcases findIdx_cases (badEd l) es with h0 | ⟨hlt,hp⟩
  · have S := S es.length (Nat.le_refl _) (fun k hk h => findIdx_not (p := badEd l) (by omega) h)
    rw [show es.any (badEd l)=false by
      rw [List.any_eq_false]
      intro v hv
      obtain ⟨k,hk,rfl⟩:=List.mem_iff_getElem.1 hv
      rw [findIdx_not (p:=badEd l) (by omega) hk]; simp]
    rw [if_neg (by simp)]
    exact S _ (by simp only [f55_b3,dec_ge (Nat.le_refl es.length),go_sem,seval]) (by simp)
  · have S := S (es.findIdx (badEd l)) (Nat.le_of_lt hlt) (fun k hk h => findIdx_not (p := badEd l) hk h)
    rw [show es.any (badEd l)=true by rw [List.any_eq_true]; exact ⟨_,List.getElem_mem hlt,hp⟩]
    rw [if_pos rfl]
    generalize es.findIdx (badEd l)=k at *
    have l4:=rings_l4 l es hl hr k hlt
    rw [hp,if_pos rfl] at l4
    exact S _ (by simp only [f55_b3,dec_lt hlt,l4,go_sem,seval]) (by simp)
def ringsB (l : List Vx) (es : List Ed) : Bool:=!(l.any (badVx es) || es.any (badEd l))
theorem i_r04_rings (l : List Vx) (es : List Ed) (hl : l.length≤100000) (hr : FitsR l) (he : Fits es) : call F 55 [.agg [.sl .shared 5 (rowsBy Vx.c l),.sl .shared 4 (rowsBy Ed.c es)]]=some (.bool (ringsB l es)):=by
  have l1:=rings_l1 l es (Fits.of (by omega)) hr he
  have l3:=rings_l3 l es hl hr he
  unfold ringsB
  cases ha : l.any (badVx es) with
  | true =>
    rw [ha,if_pos rfl] at l1
    rw [call_code F (show F 55=some (.code f55) from rfl)]
    simp only [f55,l1,go_sem,seval]
  | false =>
    rw [ha,if_neg (by simp)] at l1
    cases hb : es.any (badEd l) with
    | true =>
      rw [hb,if_pos rfl] at l3
      rw [call_code F (show F 55=some (.code f55) from rfl)]
      simp only [f55,l1,l3,go_sem,seval]
    | false =>
      rw [hb,if_neg (by simp)] at l3
      rw [call_code F (show F 55=some (.code f55) from rfl)]
      simp only [f55,l1,l3,go_sem,seval]
end Go.Proofs.Ytcecojdeljbjoaa.Sx
namespace Go.Proofs.Ytcecojdeljbjoaa.Sx
open Go
def mapD (s : List Dart) : List (List TV × List TV):=s.map fun d => (Dart.c d,[TV.bool true])
def keyL (x : Dart) : List LV:=[LV.v (TV.int IntKind.i64 x.e.s),LV.v (TV.int IntKind.i64 x.e.n),LV.v (TV.int IntKind.i64 x.d)]
theorem eqc (x d : Dart) : eqCells [Lk.i,Lk.i,Lk.i] (keyL x) (liftV (Dart.c d))=some (decide (x=d)):=by
  unfold keyL
  simp only [Dart.c,go_sem,seval]
theorem find_mapD (x : Dart) : ∀ s : List Dart,findM [Lk.i,Lk.i,Lk.i] (keyL x) (mapD s)=some (if x∈s then some [TV.bool true] else none)
  | [] => rfl
  | d :: s => by
    show findM [Lk.i,Lk.i,Lk.i] (keyL x) ((Dart.c d,[TV.bool true]) :: mapD s)=_
    rw [findM,eqc]
    by_cases h : x=d
    · rw [decide_eq_true h,if_pos (by simp [h])]
    · rw [decide_eq_false h]
      simp only []
      rw [find_mapD x s]
      by_cases h2 : x∈s
      · rw [if_pos h2,if_pos (by simp [h2])]
      · rw [if_neg h2,if_neg (by simp [h,h2])]
theorem upd_mapD (x : Dart) : ∀ s : List Dart,updM [Lk.i,Lk.i,Lk.i] (keyL x) (Dart.c x) [TV.bool true] (mapD s)=some (mapD (if x∈s then s else s++[x]))
  | [] => rfl
  | d :: s => by
    show updM [Lk.i,Lk.i,Lk.i] (keyL x) (Dart.c x) [TV.bool true] ((Dart.c d,[TV.bool true]) :: mapD s)=_
    rw [updM,eqc]
    by_cases h : x=d
    · rw [decide_eq_true h, if_pos (by simp [h])]
      subst h; rfl
    · rw [decide_eq_false h]
      simp only []
      rw [upd_mapD x s]
      by_cases h2 : x∈s
      · rw [if_pos h2,if_pos (by simp [h2])]; rfl
      · rw [if_neg h2,if_neg (by simp [h,h2])]; rfl
theorem del_mapD (x : Dart) : ∀ s : List Dart,delM [Lk.i,Lk.i,Lk.i] (keyL x) (mapD s)=some (mapD (s.erase x))
  | [] => rfl
  | d :: s => by
    show delM [Lk.i,Lk.i,Lk.i] (keyL x) ((Dart.c d,[TV.bool true]) :: mapD s)=_
    rw [delM,eqc]
    by_cases h : x=d
    · rw [decide_eq_true h]
      subst h
      rw [List.erase_cons_head]
    · rw [decide_eq_false h]
      simp only []
      rw [del_mapD x s,List.erase_cons_tail (by simpa using fun e => h e.symm)]; rfl
def addD (s : List Dart) (x : Dart) : List Dart:=if x∈s then s else s++[x]
def leftE (es : List Ed) : List Dart:=es.foldl (fun s e => addD (addD s ⟨e.id,0⟩) ⟨e.id,1⟩) []
theorem leftE_succ {es : List Ed} {i : Nat} (h : i < es.length) : leftE (es.take (i+1))=addD (addD (leftE (es.take i)) ⟨es[i].id,0⟩) ⟨es[i].id,1⟩:=by
  unfold leftE; rw [List.take_succ_eq_append_getElem h,List.foldl_append]; rfl
theorem drings_l1 (l : List Vx) (es : List Ed) (he : Fits es) : E (cs F) 0 f46_l1 (⟨(upd (upd (upd (upd (upd Sx.e0 14 (.v (.int .i64 (0)))) 13 (.v (.int .i64 ((es.length : Int))))) 12 (.v (.sl .shared 4 (rowsBy Ed.c es)))) 3 (.m 3)) 1 (.p 1 0)),(upd (upd Sx.h0 3 (some (.map false true false []))) 1 (some (.var false [.v (.sl .shared 5 (rowsBy Vx.c l)),.v (.sl .shared 4 (rowsBy Ed.c es))])))⟩ : St) =
    some (.exit 0,(⟨(upd (upd Sx.e0 3 (.m 3)) 1 (.p 1 0)),(upd (upd Sx.h0 3 (some (.map false true false (mapD (leftE es))))) 1 (some (.var false [.v (.sl .shared 5 (rowsBy Vx.c l)),.v (.sl .shared 4 (rowsBy Ed.c es))])))⟩ : St)):=by
  have hle:=he.le
  have key:=loop_to (C:=cs F) (lo:=0) (b:=f46_b1) (fun i => (⟨(upd (upd (upd (upd (upd Sx.e0 14 (.v (.int .i64 ((i : Int))))) 13 (.v (.int .i64 ((es.length : Int))))) 12 (.v (.sl .shared 4 (rowsBy Ed.c es)))) 3 (.m 3)) 1 (.p 1 0)),(upd (upd Sx.h0 3 (some (.map false true false (mapD (leftE (es.take i)))))) 1 (some (.var false [.v (.sl .shared 5 (rowsBy Vx.c l)),.v (.sl .shared 4 (rowsBy Ed.c es))])))⟩ : St)) es.length (r:=(.exit 0,(⟨(upd (upd Sx.e0 3 (.m 3)) 1 (.p 1 0)),(upd (upd Sx.h0 3 (some (.map false true false (mapD (leftE es))))) 1 (some (.var false [.v (.sl .shared 5 (rowsBy Vx.c l)),.v (.sl .shared 4 (rowsBy Ed.c es))])))⟩ : St))) ?_ ?_ (by simp)
  · exact key
  · intro i hi
    have h1z : (i : Int) < (es.length : Int):=by omega
    rw [leftE_succ hi]
    generalize leftE (es.take i)=s at *
    have u1:=upd_mapD ⟨es[i].id,0⟩ s
    rw [show (if (⟨es[i].id,0⟩ : Dart)∈s then s else s++[⟨es[i].id,0⟩])=addD s ⟨es[i].id,0⟩ from rfl] at u1
    have u2:=upd_mapD ⟨es[i].id,1⟩ (addD s ⟨es[i].id,0⟩)
    rw [show (if (⟨es[i].id,1⟩ : Dart)∈addD s ⟨es[i].id,0⟩ then addD s ⟨es[i].id,0⟩ else addD s ⟨es[i].id,0⟩++[⟨es[i].id,1⟩])=addD (addD s ⟨es[i].id,0⟩) ⟨es[i].id,1⟩ from rfl] at u2
    generalize addD s ⟨es[i].id,0⟩=s2 at *
    generalize addD s2 ⟨es[i].id,1⟩=s3 at *
    simp only [keyL,Dart.c] at u1 u2
    simp only [f46_b1,dec_lt hi,h1z,rowsBy_get Ed.c hi,Ed.c,u1,u2,wrap_succ hi (show es.length≤9223372036854775807 by omega),go_sem,seval]
  · rw [List.take_length]
    simp only [f46_b1,dec_ge (Nat.le_refl es.length),go_sem,seval]
def eat : List Dart→List Dart→Option (List Dart)
  | s,[] => some s
  | s,x :: r => if x∈s then eat (s.erase x) r else none
theorem drings_l3 (l : List Vx) (i : Nat) (r : List Dart) (hr : Fits r) : ∀ (n k : Nat) (s : List Dart),k+n=r.length→E (cs F) 0 f46_l3 (⟨(upd (upd (upd (upd (upd (upd (upd Sx.e0 44 (.v (.int .i64 ((k : Int))))) 43 (.v (.int .i64 ((r.length : Int))))) 42 (.v (.sl .shared 3 (rowsBy Dart.c r)))) 30 (.v (.int .i64 ((i : Int))))) 29 (.v (.int .i64 ((l.length : Int))))) 28 (.v (.sl .shared 5 (rowsBy Vx.c l)))) 3 (.m 3)),(upd Sx.h0 3 (some (.map false true false (mapD s))))⟩ : St) =
    some (match eat s (r.drop k) with
      | some s' => (.exit 4,(⟨(upd (upd (upd (upd Sx.e0 30 (.v (.int .i64 ((i : Int))))) 29 (.v (.int .i64 ((l.length : Int))))) 28 (.v (.sl .shared 5 (rowsBy Vx.c l)))) 3 (.m 3)),(upd Sx.h0 3 (some (.map false true false (mapD s'))))⟩ : St))
      | none => (.ret,(⟨(upd Sx.e0 2 (.v (.bool false))),Sx.h0⟩ : St))):=by
  have hle:=hr.le
  intro n
  induction n with
  | zero =>
    intro k s hk
    have e : r.drop k=[]:=List.drop_eq_nil_of_le (by omega)
    rw [e]
    simp only [eat]
    rw [f46_l3_eq]
    simp only [f46_b3,dec_ge (show r.length≤k by omega),go_sem,seval]
  | succ n ih =>
    intro k s hk
    have h1 : k < r.length:=by omega
    have h1z : (k : Int) < (r.length : Int):=by omega
    rw [List.drop_eq_getElem_cons h1]
    simp only [eat]
    have f1:=find_mapD r[k] s
    have d1:=del_mapD r[k] s
    simp only [keyL] at f1 d1
    rw [f46_l3_eq]
    by_cases hm : r[k]∈s
    · rw [if_pos hm] at f1
      rw [if_pos hm]
      have ih:=ih (k+1) (s.erase r[k]) (by omega)
      rw [← ih]
      generalize s.erase r[k]=s2 at *
      simp only [f46_b3,dec_lt h1,h1z,rowsBy_get Dart.c h1,Dart.c,f1,d1,wrap_succ h1 (show r.length≤9223372036854775807 by omega),go_sem,seval]
    · rw [if_neg hm] at f1
      rw [if_neg hm]
      simp only [f46_b3,dec_lt h1,h1z,rowsBy_get Dart.c h1,Dart.c,f1,go_sem,seval]
def eatV : List Dart→List Vx→Option (List Dart)
  | s,[] => some s
  | s,v :: l => if v.ring=turn v.ring then (match eat s v.ring with | some s' => eatV s' l | none => none) else none
theorem drings_l2 (l : List Vx) (hl : Fits l) (hr : FitsR l) : ∀ (n k : Nat) (s : List Dart),k+n=l.length→E (cs F) 0 f46_l2 (⟨(upd (upd (upd (upd Sx.e0 30 (.v (.int .i64 ((k : Int))))) 29 (.v (.int .i64 ((l.length : Int))))) 28 (.v (.sl .shared 5 (rowsBy Vx.c l)))) 3 (.m 3)),(upd Sx.h0 3 (some (.map false true false (mapD s))))⟩ : St) =
    some (match eatV s (l.drop k) with
      | some s' => (.exit 2,(⟨(upd Sx.e0 3 (.m 3)),(upd Sx.h0 3 (some (.map false true false (mapD s'))))⟩ : St))
      | none => (.ret,(⟨(upd Sx.e0 2 (.v (.bool false))),Sx.h0⟩ : St))):=by
  have hle:=hl.le
  intro n
  induction n with
  | zero =>
    intro k s hk
    have e : l.drop k=[]:=List.drop_eq_nil_of_le (by omega)
    rw [e]
    simp only [eatV]
    rw [f46_l2_eq]
    simp only [f46_b2,dec_ge (show l.length≤k by omega),go_sem,seval]
  | succ n ih =>
    intro k s hk
    have h1 : k < l.length:=by omega
    have h1z : (k : Int) < (l.length : Int):=by omega
    rw [List.drop_eq_getElem_cons h1]
    simp only [eatV]
    have hf:=hr _ (List.getElem_mem h1)
    have ct:=c_ring_Turn l[k].ring hf
    have ce:=c_Equal_Dart l[k].ring (turn l[k].ring) hf
    have l3:=drings_l3 l k l[k].ring hf l[k].ring.length 0 s (by omega)
    rw [List.drop_zero] at l3
    simp only [nat0] at l3
    rw [f46_l2_eq]
    by_cases g : l[k].ring=turn l[k].ring
    · rw [dec_t g] at ce
      rw [if_pos g]
      generalize turn l[k].ring=u at *
      cases he : eat s l[k].ring with
      | none =>
        rw [he] at l3
        simp only [] at l3 ⊢
        simp only [f46_b2,dec_lt h1,h1z,rowsBy_get Vx.c h1,Vx.c,ct,ce,l3,go_sem,seval]
      | some s2 =>
        rw [he] at l3
        simp only [] at l3 ⊢
        have ih:=ih (k+1) s2 (by omega)
        rw [← ih]
        simp only [f46_b2,dec_lt h1,h1z,rowsBy_get Vx.c h1,Vx.c,ct,ce,l3,wrap_succ h1 (show l.length≤9223372036854775807 by omega),go_sem,seval]
    · rw [dec_f g] at ce
      rw [if_neg g]
      generalize turn l[k].ring=u at *
      simp only [f46_b2,dec_lt h1,h1z,rowsBy_get Vx.c h1,Vx.c,ct,ce,go_sem,seval]
theorem mapD_len (s : List Dart) : (mapD s).length=s.length:=by unfold mapD; simp
def ringsP (l : List Vx) (es : List Ed) : Bool:=match eatV (leftE es) l with
  | some s => decide ((s.length : Int)=0)
  | none => false
theorem i_diagram_rings (l : List Vx) (es : List Ed) (hl : Fits l) (hr : FitsR l) (he : Fits es) : call F 46 [.agg [.sl .shared 5 (rowsBy Vx.c l),.sl .shared 4 (rowsBy Ed.c es)]]=some (.bool (ringsP l es)):=by
  have l1:=drings_l1 l es he
  have l2:=drings_l2 l hl hr l.length 0 (leftE es) (by omega)
  rw [List.drop_zero] at l2
  simp only [nat0] at l2
  unfold ringsP
  generalize leftE es=s at *
  cases hc : eatV s l with
  | none =>
    rw [hc] at l2
    simp only [] at l2
    rw [call_code F (show F 46=some (.code f46) from rfl)]
    simp only [f46,l1,l2,go_sem,seval]
  | some s2 =>
    rw [hc] at l2
    simp only [] at l2
    have hm:=mapD_len s2
    rw [call_code F (show F 46=some (.code f46) from rfl)]
    simp only [f46,l1,l2,hm,go_sem,seval]
end Go.Proofs.Ytcecojdeljbjoaa.Sx
namespace Go.Proofs.Ytcecojdeljbjoaa.Sx
open Go
theorem eat_some : ∀ (r s s' : List Dart),s.Nodup→eat s r=some s'→s'.Nodup∧(∀ x,x∈s'↔x∈s∧x∉r)∧r.Nodup∧∀ x∈r,x∈s
  | [], s, s', hs, h => by
    simp only [eat] at h
    obtain rfl:=Option.some.inj h
    exact ⟨hs,fun x => by simp,by simp,by simp⟩
  | y :: r, s, s', hs, h => by
    simp only [eat] at h
    split at h
    · rename_i hy
      obtain ⟨h1,h2,h3,h4⟩:=eat_some r (s.erase y) s' (hs.erase y) h
      have hmem : ∀ x,x∈s.erase y↔x≠y∧x∈s:=fun x => hs.mem_erase_iff
      refine ⟨h1,fun x => ?_,?_,?_⟩
      · rw [h2, hmem]; simp only [List.mem_cons, not_or]
        constructor
        · rintro ⟨⟨a,b⟩,c⟩; exact ⟨b,a,c⟩
        · rintro ⟨b,a,c⟩; exact ⟨⟨a,b⟩,c⟩
      · rw [List.nodup_cons]
        exact ⟨fun hm => ((hmem y).1 (h4 y hm)).1 rfl,h3⟩
      · intro x hx
        rcases List.mem_cons.1 hx with rfl | hx
        · exact hy
        · exact ((hmem x).1 (h4 x hx)).2
    · cases h
theorem eat_none : ∀ (r s : List Dart),s.Nodup→eat s r=none→¬ (r.Nodup∧∀ x∈r,x∈s)
  | [],s,_,h => by simp [eat] at h
  | y :: r, s, hs, h => by
    simp only [eat] at h
    rintro ⟨h1,h2⟩
    rw [List.nodup_cons] at h1
    rw [if_pos (h2 y (by simp))] at h
    refine eat_none r (s.erase y) (hs.erase y) h ⟨h1.2,fun x hx => ?_⟩
    rw [hs.mem_erase_iff]
    exact ⟨fun e => h1.1 (e ▸ hx),h2 x (by simp [hx])⟩
def turned (l : List Vx) : Prop:=∀ v∈l,v.ring=turn v.ring
theorem eatV_some : ∀ (l : List Vx) (s s' : List Dart),s.Nodup→eatV s l=some s'→s'.Nodup∧(∀ x,x∈s'↔x∈s∧x∉allR l)∧(allR l).Nodup∧(∀ x∈allR l,x∈s)∧turned l
  | [], s, s', hs, h => by
    simp only [eatV] at h
    obtain rfl:=Option.some.inj h
    exact ⟨hs,fun x => by simp [allR],by simp [allR],by simp [allR],fun v hv => by cases hv⟩
  | v :: l, s, s', hs, h => by
    simp only [eatV] at h
    split at h
    · rename_i ht
      split at h
      · rename_i s2 he
        obtain ⟨a1,a2,a3,a4⟩:=eat_some _ _ _ hs he
        obtain ⟨b1,b2,b3,b4,b5⟩:=eatV_some l s2 s' a1 h
        have hall : allR (v :: l)=v.ring++allR l:=by simp [allR]
        rw [hall]
        refine ⟨b1,fun x => ?_,?_,?_,?_⟩
        · rw [b2,a2,List.mem_append,not_or,and_assoc]
        · rw [List.nodup_append]
          exact ⟨a3,b3,fun x hx y hy e => by subst e; exact ((a2 x).1 (b4 x hy)).2 hx⟩
        · intro x hx
          rcases List.mem_append.1 hx with hx | hx
          · exact a4 x hx
          · exact ((a2 x).1 (b4 x hx)).1
        · intro w hw
          rcases List.mem_cons.1 hw with rfl | hw
          · exact ht
          · exact b5 w hw
      · cases h
    · cases h
theorem eatV_none : ∀ (l : List Vx) (s : List Dart),s.Nodup→eatV s l=none→¬ ((allR l).Nodup∧(∀ x∈allR l,x∈s)∧turned l)
  | [],s,_,h => by simp [eatV] at h
  | v :: l, s, hs, h => by
    simp only [eatV] at h
    rintro ⟨h1,h2,h3⟩
    have hall : allR (v :: l)=v.ring++allR l:=by simp [allR]
    rw [hall] at h1 h2
    rw [List.nodup_append] at h1
    rw [if_pos (h3 v (by simp))] at h
    split at h
    · rename_i s2 he
      obtain ⟨a1,a2,a3,a4⟩:=eat_some _ _ _ hs he
      refine eatV_none l s2 a1 h ⟨h1.2.1,fun x hx => ?_,fun w hw => h3 w (by simp [hw])⟩
      rw [a2]
      exact ⟨h2 x (by simp [hx]),fun hv => h1.2.2 x hv x hx rfl⟩
    · rename_i he
      exact eat_none _ _ hs he ⟨h1.1,fun x hx => h2 x (by simp [hx])⟩
theorem addD_mem (s : List Dart) (x y : Dart) : y∈addD s x↔y∈s∨y=x:=by
  unfold addD; split
  · rename_i h
    constructor
    · exact .inl
    · rintro (h1 | rfl)
      · exact h1
      · exact h
  · simp
theorem addD_nodup {s : List Dart} (h : s.Nodup) (x : Dart) : (addD s x).Nodup:=by
  unfold addD; split
  · exact h
  · rename_i hx
    rw [List.nodup_append]
    exact ⟨h,by simp,fun a ha b hb e => by simp at hb; subst hb; subst e; exact hx ha⟩
theorem leftF (es : List Ed) : ∀ s : List Dart,s.Nodup→(es.foldl (fun s e => addD (addD s ⟨e.id,0⟩) ⟨e.id,1⟩) s).Nodup∧∀ x,x∈es.foldl (fun s e => addD (addD s ⟨e.id,0⟩) ⟨e.id,1⟩) s↔x∈s∨∃ e∈es,x=⟨e.id,0⟩∨x=⟨e.id,1⟩:=by
  induction es with
  | nil => intro s h; exact ⟨h,fun x => by simp⟩
  | cons e es ih =>
    intro s h
    rw [List.foldl_cons]
    obtain ⟨h1,h2⟩:=ih _ (addD_nodup (addD_nodup h ⟨e.id,0⟩) ⟨e.id,1⟩)
    refine ⟨h1,fun x => ?_⟩
    rw [h2,addD_mem,addD_mem]
    constructor
    · rintro (((h | h) | h) | ⟨f, hf, h⟩)
      · exact .inl h
      · exact .inr ⟨e,by simp,.inl h⟩
      · exact .inr ⟨e,by simp,.inr h⟩
      · exact .inr ⟨f,by simp [hf],h⟩
    · rintro (h | ⟨f, hf, h⟩)
      · exact .inl (.inl (.inl h))
      · rcases List.mem_cons.1 hf with rfl | hf
        · rcases h with h | h
          · exact .inl (.inl (.inr h))
          · exact .inl (.inr h)
        · exact .inr ⟨f,hf,h⟩
theorem leftE_nodup (es : List Ed) : (leftE es).Nodup:=(leftF es [] (by simp)).1
theorem leftE_mem (es : List Ed) (x : Dart) : x∈leftE es↔∃ e∈es,x=⟨e.id,0⟩∨x=⟨e.id,1⟩:=by
  have:=(leftF es [] (by simp)).2 x
  simpa [leftE] using this
theorem badDart_iff (es : List Ed) (x : Dart) : badDart es x=false↔x∈leftE es:=by
  rw [leftE_mem]
  unfold badDart
  cases hc : edBy es x.e with
  | none =>
    have hno:=firstBy_no hc
    constructor
    · intro h; cases h
    · rintro ⟨e, he, h⟩
      have:=hno e he
      rcases h with rfl | rfl<;>simp at this
  | some e =>
    obtain ⟨h1,h2⟩:=firstBy_mem hc
    have h2' : e.id=x.e:=of_decide_eq_true h2
    constructor
    · intro h
      simp at h
      refine ⟨e,h1,?_⟩
      have : x.d=0∨x.d=1:=by omega
      obtain ⟨xe,xd⟩:=x
      simp only at h2' this
      subst h2'
      rcases this with rfl | rfl
      · left; rfl
      · right; rfl
    · rintro ⟨f,hf,rfl | rfl⟩<;>rfl
theorem timesN_count (l : List Vx) (x : Dart) : timesN l x=(allR l).count x:=by
  induction l with
  | nil => rfl
  | cons v l ih =>
    have e1 : timesN (v :: l) x=v.ring.count x+timesN l x:=by simp [timesN]
    have e2 : allR (v :: l)=v.ring++allR l:=by simp [allR]
    rw [e1,e2,List.count_append,ih]
theorem allR_mem (l : List Vx) (x : Dart) : x∈allR l↔∃ v∈l,x∈v.ring:=by
  unfold allR
  rw [List.mem_flatten]
  constructor
  · rintro ⟨r, hr, hx⟩
    obtain ⟨v,hv,rfl⟩:=List.mem_map.1 hr
    exact ⟨v,hv,hx⟩
  · rintro ⟨v, hv, hx⟩
    exact ⟨_,List.mem_map.2 ⟨v,hv,rfl⟩,hx⟩
theorem count_one {l : List Dart} (h : l.Nodup) {x : Dart} (hx : x∈l) : l.count x=1:=by
  have h1 : l.count x≤1:=List.nodup_iff_count.1 h x
  have h2 : 0 < l.count x:=List.count_pos_iff.2 hx
  omega
theorem ringsB_iff (l : List Vx) (es : List Ed) : ringsB l es=true↔turned l∧(∀ x∈allR l,x∈leftE es)∧∀ x∈leftE es,(allR l).count x=1:=by
  unfold ringsB
  rw [Bool.not_eq_true',Bool.or_eq_false_iff,List.any_eq_false,List.any_eq_false]
  constructor
  · rintro ⟨h1, h2⟩
    refine ⟨fun v hv => ?_,fun x hx => ?_,fun x hx => ?_⟩
    · have := h1 v hv
      unfold badVx at this
      simp at this
      exact this.1
    · obtain ⟨v, hv, hxv⟩ := (allR_mem l x).1 hx
      have:=h1 v hv
      unfold badVx at this
      rw [← badDart_iff]
      simp at this
      simpa using this.2 x hxv
    · obtain ⟨e, he, h⟩ := (leftE_mem es x).1 hx
      have:=h2 e he
      unfold badEd at this
      simp only [timesN_count] at this
      simp at this
      rcases h with rfl | rfl
      · exact this.1
      · exact this.2
  · rintro ⟨h1, h2, h3⟩
    refine ⟨fun v hv => ?_,fun e he => ?_⟩
    · unfold badVx
      have k1:=h1 v hv
      rw [decide_eq_true k1]
      simp only [Bool.not_true,Bool.false_or]
      rw [Bool.not_eq_true,List.any_eq_false]
      intro x hx
      rw [(badDart_iff es x).2 (h2 x ((allR_mem l x).2 ⟨v,hv,hx⟩))]; simp
    · unfold badEd
      rw [timesN_count,timesN_count,h3 _ ((leftE_mem es _).2 ⟨e,he,.inl rfl⟩),h3 _ ((leftE_mem es _).2 ⟨e,he,.inr rfl⟩)]
      simp
theorem ringsP_iff (l : List Vx) (es : List Ed) : ringsP l es=true↔turned l∧(∀ x∈allR l,x∈leftE es)∧∀ x∈leftE es,(allR l).count x=1:=by
  unfold ringsP
  cases hc : eatV (leftE es) l with
  | none =>
    have:=eatV_none l _ (leftE_nodup es) hc
    simp only []
    constructor
    · intro h; cases h
    · rintro ⟨h1, h2, h3⟩
      refine absurd ⟨?_,h2,h1⟩ this
      rw [List.nodup_iff_count]
      intro x
      by_cases hx : x∈allR l
      · rw [h3 x (h2 x hx)]; exact Nat.le_refl _
      · rw [List.count_eq_zero_of_not_mem hx]; omega
  | some s =>
    obtain ⟨a1,a2,a3,a4,a5⟩:=eatV_some l _ s (leftE_nodup es) hc
    simp only []
    constructor
    · intro h
      have hs : s=[]:=List.eq_nil_of_length_eq_zero (by have:=of_decide_eq_true h; omega)
      subst hs
      refine ⟨a5,a4,fun x hx => count_one a3 ?_⟩
      by_cases hm : x∈allR l
      · exact hm
      · have:=(a2 x).2 ⟨hx,hm⟩; cases this
    · rintro ⟨h1, h2, h3⟩
      apply decide_eq_true
      cases s with
      | nil => rfl
      | cons y s =>
        obtain ⟨b1,b2⟩:=(a2 y).1 (by simp)
        have:=h3 y b1
        rw [List.count_eq_zero_of_not_mem b2] at this
        cases this
theorem ringsPB (l : List Vx) (es : List Ed) : ringsP l es=ringsB l es:=by
  rw [Bool.eq_iff_iff,ringsP_iff,ringsB_iff]
end Go.Proofs.Ytcecojdeljbjoaa.Sx
namespace Go.Proofs.Ytcecojdeljbjoaa.Sx
open Go
def labB (l : List Vx) (es : List Ed) : Bool:=l.any (fun v => !mayLab v.label) || es.any (fun v => !mayLab v.label)
def attB (l : List Vx) (es : List Ed) : Bool:=l.any (fun v => !mayAtt v.attr) || es.any (fun v => !mayAtt v.attr)
def formC (l : List Vx) (es : List Ed) : Int :=
  if l.length > 24∨es.length > 40 then 3 else if riseI (l.map Vx.id)=false∨riseI (es.map Ed.id)=false∨ringsB l es=false then 10 else if labB l es then 4 else if attB l es then 1 else 0
theorem i_diagram_Form (l : List Vx) (es : List Ed) (hr : FitsR l) : call F 35 [.agg [.sl .shared 5 (rowsBy Vx.c l),.sl .shared 4 (rowsBy Ed.c es)]]=some (.int .i64 (formC l es)):=by
  unfold formC
  by_cases h1 : l.length > 24
  · rw [if_pos (.inl h1)]
    have k1 : decide ((l.length : Int) > 24)=true:=decide_eq_true (by omega)
    rw [call_code F (show F 35=some (.code f35) from rfl)]
    simp only [f35,k1,go_sem,seval]
  · have k1 : decide ((l.length : Int) > 24) = false := decide_eq_false (by omega)
    by_cases h2 : es.length > 40
    · rw [if_pos (.inr h2)]
      have k2 : decide ((es.length : Int) > 40)=true:=decide_eq_true (by omega)
      rw [call_code F (show F 35=some (.code f35) from rfl)]
      simp only [f35,k1,k2,go_sem,seval]
    · have k2 : decide ((es.length : Int) > 40) = false := decide_eq_false (by omega)
      rw [if_neg (by omega)]
      have hl : Fits l:=by unfold Fits; omega
      have he : Fits es:=by unfold Fits; omega
      have n1:=c_named_Vertex l hl
      have n2:=c_named_Edge es he
      have r1:=c_rise (l.map Vx.id) (by unfold Fits; rw [List.length_map]; omega)
      have r2:=c_rise (es.map Ed.id) (by unfold Fits; rw [List.length_map]; omega)
      have r3:=i_diagram_rings l es hl hr he
      rw [ringsPB] at r3
      have s1:=i_some l es hl he 48 (fun s _ => !mayLab s) i_Form1
      have s2:=i_some l es hl he 50 (fun _ n => !mayAtt n) i_Form2
      rw [show (l.any (fun v => (fun s _ => !mayLab s) v.label v.attr) || es.any (fun v => (fun s _ => !mayLab s) v.label v.attr))=labB l es from rfl] at s1
      rw [show (l.any (fun v => (fun _ n => !mayAtt n) v.label v.attr) || es.any (fun v => (fun _ n => !mayAtt n) v.label v.attr))=attB l es from rfl] at s2
      generalize l.map Vx.id=i1 at *
      generalize es.map Ed.id=i2 at *
      generalize riseI i1=b1 at *
      generalize riseI i2=b2 at *
      generalize ringsB l es=b3 at *
      generalize labB l es=b4 at *
      generalize attB l es=b5 at *
      cases b1
      · rw [call_code F (show F 35 = some (.code f35) from rfl)]
        simp only [f35,k1,k2,n1,r1,go_sem,seval]
      · cases b2
        · rw [call_code F (show F 35 = some (.code f35) from rfl)]
          simp only [f35,k1,k2,n1,n2,r1,r2,go_sem,seval]
        · cases b3
          · rw [call_code F (show F 35 = some (.code f35) from rfl)]
            simp only [f35,k1,k2,n1,n2,r1,r2,r3,go_sem,seval]
          · cases b4<;>cases b5<;>(rw [call_code F (show F 35=some (.code f35) from rfl)])<;>(simp only [f35,k1,k2,n1,n2,r1,r2,r3,s1,s2,go_sem,seval])
end Go.Proofs.Ytcecojdeljbjoaa.Sx
namespace Go.Proofs.Ytcecojdeljbjoaa.Sx
open Go
def FitsL (l : List Vx) (es : List Ed) : Prop:=(∀ v∈l,v.label.size≤9223372036854775807)∧∀ v∈es,v.label.size≤9223372036854775807
theorem rform_l1 (l : List Vx) (es : List Ed) (hl : Fits l) (hs : FitsL l es) : E (cs F) 0 f38_l1 (⟨(upd (upd (upd (upd (upd Sx.e0 9 (.v (.int .i64 (0)))) 8 (.v (.bool true))) 7 (.v (.bool true))) 4 (.v (.int .i64 ((l.length : Int))))) 1 (.p 1 0)),(upd Sx.h0 1 (some (.var false [.v (.sl .shared 5 (rowsBy Vx.c l)),.v (.sl .shared 4 (rowsBy Ed.c es))])))⟩ : St) =
    some (.exit 0,(⟨(upd (upd (upd Sx.e0 8 (.v (.bool (l.all fun v => mayAtt v.attr)))) 7 (.v (.bool (l.all fun v => mayLab v.label)))) 1 (.p 1 0)),(upd Sx.h0 1 (some (.var false [.v (.sl .shared 5 (rowsBy Vx.c l)),.v (.sl .shared 4 (rowsBy Ed.c es))])))⟩ : St)):=by
  have hle:=hl.le
  refine loop_to (b:=f38_b1) (fun i => (⟨(upd (upd (upd (upd (upd Sx.e0 9 (.v (.int .i64 ((i : Int))))) 8 (.v (.bool ((l.take i).all fun v => mayAtt v.attr)))) 7 (.v (.bool ((l.take i).all fun v => mayLab v.label)))) 4 (.v (.int .i64 ((l.length : Int))))) 1 (.p 1 0)),(upd Sx.h0 1 (some (.var false [.v (.sl .shared 5 (rowsBy Vx.c l)),.v (.sl .shared 4 (rowsBy Ed.c es))])))⟩ : St)) l.length ?_ ?_ (by simp)
  · intro i hi
    have h1z : (i : Int) < (l.length : Int):=by omega
    have c1:=c_r04_MayLabel l[i].label (hs.1 _ (List.getElem_mem hi))
    rw [show (mayB l[i].label && decide ((l[i].label.size : Int)≤16))=mayLab l[i].label from rfl] at c1
    have c2:=c_r04_MayAttr l[i].attr
    rw [show (decide (l[i].attr ≥ -1099511627776) && decide (l[i].attr≤1099511627776))=mayAtt l[i].attr from rfl] at c2
    rw [List.take_succ_eq_append_getElem hi,List.all_append,List.all_append]
    simp only [List.all_cons,List.all_nil,Bool.and_true]
    generalize (l.take i).all (fun v => mayLab v.label)=b1 at *
    generalize (l.take i).all (fun v => mayAtt v.attr)=b2 at *
    generalize mayLab l[i].label=b3 at *
    generalize mayAtt l[i].attr=b4 at *
    cases b1<;>cases b2<;>(simp only [f38_b1,dec_lt hi,h1z,rowsBy_get Vx.c hi,Vx.c,c1,c2,Bool.true_and,Bool.false_and,wrap_succ hi (show l.length≤9223372036854775807 by omega),go_sem,seval])
  · rw [List.take_length]
    simp only [f38_b1,dec_ge (Nat.le_refl l.length),go_sem,seval]
theorem rform_l2 (l : List Vx) (es : List Ed) (he : Fits es) (hs : FitsL l es) (a1 a2 : Bool) : E (cs F) 0 f38_l2 (⟨(upd (upd (upd (upd Sx.e0 10 (.v (.int .i64 (0)))) 8 (.v (.bool a2))) 7 (.v (.bool a1))) 1 (.p 1 0)),(upd Sx.h0 1 (some (.var false [.v (.sl .shared 5 (rowsBy Vx.c l)),.v (.sl .shared 4 (rowsBy Ed.c es))])))⟩ : St) =
    some (.exit 2,(⟨(upd (upd Sx.e0 8 (.v (.bool (a2 && es.all fun v => mayAtt v.attr)))) 7 (.v (.bool (a1 && es.all fun v => mayLab v.label)))),Sx.h0⟩ : St)):=by
  have hle:=he.le
  have key:=loop_to (C:=cs F) (lo:=0) (b:=f38_b2) (fun i => (⟨(upd (upd (upd (upd Sx.e0 10 (.v (.int .i64 ((i : Int))))) 8 (.v (.bool (a2 && (es.take i).all fun v => mayAtt v.attr)))) 7 (.v (.bool (a1 && (es.take i).all fun v => mayLab v.label)))) 1 (.p 1 0)),(upd Sx.h0 1 (some (.var false [.v (.sl .shared 5 (rowsBy Vx.c l)),.v (.sl .shared 4 (rowsBy Ed.c es))])))⟩ : St)) es.length (r:=(.exit 2,(⟨(upd (upd Sx.e0 8 (.v (.bool (a2 && es.all fun v => mayAtt v.attr)))) 7 (.v (.bool (a1 && es.all fun v => mayLab v.label)))),Sx.h0⟩ : St))) ?_ ?_ (by simp)
  · simp only [List.take_zero, List.all_nil, Bool.and_true] at key
    exact key
  · intro i hi
    have h1z : (i : Int) < (es.length : Int):=by omega
    have c1:=c_r04_MayLabel es[i].label (hs.2 _ (List.getElem_mem hi))
    rw [show (mayB es[i].label && decide ((es[i].label.size : Int)≤16))=mayLab es[i].label from rfl] at c1
    have c2:=c_r04_MayAttr es[i].attr
    rw [show (decide (es[i].attr ≥ -1099511627776) && decide (es[i].attr≤1099511627776))=mayAtt es[i].attr from rfl] at c2
    rw [List.take_succ_eq_append_getElem hi,List.all_append,List.all_append,← Bool.and_assoc,← Bool.and_assoc]
    simp only [List.all_cons,List.all_nil,Bool.and_true]
    generalize (a1 && (es.take i).all (fun v => mayLab v.label))=b1 at *
    generalize (a2 && (es.take i).all (fun v => mayAtt v.attr))=b2 at *
    generalize mayLab es[i].label=b3 at *
    generalize mayAtt es[i].attr=b4 at *
    cases b1<;>cases b2<;>(simp only [f38_b2,dec_lt hi,h1z,rowsBy_get Ed.c hi,Ed.c,c1,c2,Bool.true_and,Bool.false_and,wrap_succ hi (show es.length≤9223372036854775807 by omega),go_sem,seval])
  · rw [List.take_length]
    simp only [f38_b2,dec_ge (Nat.le_refl es.length),go_sem,seval]
theorem not_any {α : Type} (p : α→Bool) (l : List α) : (l.any fun v => !p v)=!(l.all p):=by
  induction l with
  | nil => rfl
  | cons a l ih => rw [List.any_cons,List.all_cons,ih]; cases p a<;>simp
theorem labB_eq (l : List Vx) (es : List Ed) : labB l es=!((l.all fun v => mayLab v.label) && es.all fun v => mayLab v.label):=by
  unfold labB; rw [not_any (fun v : Vx => mayLab v.label),not_any (fun v : Ed => mayLab v.label),Bool.not_and]
theorem attB_eq (l : List Vx) (es : List Ed) : attB l es=!((l.all fun v => mayAtt v.attr) && es.all fun v => mayAtt v.attr):=by
  unfold attB; rw [not_any (fun v : Vx => mayAtt v.attr),not_any (fun v : Ed => mayAtt v.attr),Bool.not_and]
theorem i_r04_Form (l : List Vx) (es : List Ed) (hr : FitsR l) (hs : FitsL l es) : call F 38 [.agg [.sl .shared 5 (rowsBy Vx.c l),.sl .shared 4 (rowsBy Ed.c es)]]=some (.int .i64 (formC l es)):=by
  unfold formC
  by_cases h1 : l.length > 24
  · rw [if_pos (.inl h1)]
    have k1 : decide ((l.length : Int) > 24)=true:=decide_eq_true (by omega)
    rw [call_code F (show F 38=some (.code f38) from rfl)]
    simp only [f38,k1,go_sem,seval]
  · have k1 : decide ((l.length : Int) > 24) = false := decide_eq_false (by omega)
    by_cases h2 : es.length > 40
    · rw [if_pos (.inr h2)]
      have k2 : decide ((es.length : Int) > 40)=true:=decide_eq_true (by omega)
      rw [call_code F (show F 38=some (.code f38) from rfl)]
      simp only [f38,k1,k2,go_sem,seval]
    · have k2 : decide ((es.length : Int) > 40) = false := decide_eq_false (by omega)
      rw [if_neg (by omega)]
      have hl : Fits l:=by unfold Fits; omega
      have he : Fits es:=by unfold Fits; omega
      have nm:=i_r04_Names l es (by omega) he
      have r1:=c_r04_rise (l.map Vx.id) (by unfold Fits; rw [List.length_map]; omega)
      have r2:=c_r04_rise (es.map Ed.id) (by unfold Fits; rw [List.length_map]; omega)
      have r3:=i_r04_rings l es (by omega) hr he
      have l1:=rform_l1 l es hl hs
      have l2:=rform_l2 l es he hs (l.all fun v => mayLab v.label) (l.all fun v => mayAtt v.attr)
      rw [show ((l.all fun v => mayLab v.label) && es.all fun v => mayLab v.label)=!labB l es by rw [labB_eq,Bool.not_not],show ((l.all fun v => mayAtt v.attr) && es.all fun v => mayAtt v.attr)=!attB l es by rw [attB_eq,Bool.not_not]] at l2
      have hm : (l.map Vx.id).length=l.length:=List.length_map _
      have e1 : (l.map Vx.id++es.map Ed.id).take l.length=l.map Vx.id:=by rw [← hm,List.take_left]
      have e2 : (l.map Vx.id++es.map Ed.id).drop l.length=es.map Ed.id:=by rw [← hm,List.drop_left]
      have kz : (l.length : Int)≤((l.map Vx.id++es.map Ed.id).length : Int):=by rw [List.length_append,hm]; omega
      have e3 : (es.map Ed.id).take ((l.map Vx.id++es.map Ed.id).length - l.length)=es.map Ed.id:=List.take_of_length_le (by rw [List.length_append,hm]; omega)
      generalize l.map Vx.id++es.map Ed.id=q at *
      generalize l.map Vx.id=i1 at *
      generalize es.map Ed.id=i2 at *
      generalize (l.all fun v => mayLab v.label)=a1 at *
      generalize (l.all fun v => mayAtt v.attr)=a2 at *
      generalize riseI i1=b1 at *
      generalize riseI i2=b2 at *
      generalize ringsB l es=b3 at *
      generalize labB l es=b4 at *
      generalize attB l es=b5 at *
      cases b1
      · rw [call_code F (show F 38 = some (.code f38) from rfl)]
        simp only [f38,k1,k2,nm,r1,r2,e1,e2,e3,kz,go_sem,seval]
      · cases b2
        · rw [call_code F (show F 38 = some (.code f38) from rfl)]
          simp only [f38,k1,k2,nm,r1,r2,e1,e2,e3,kz,go_sem,seval]
        · cases b3
          · rw [call_code F (show F 38 = some (.code f38) from rfl)]
            simp only [f38,k1,k2,nm,r1,r2,r3,e1,e2,e3,kz,go_sem,seval]
          · cases b4<;>cases b5<;>(rw [call_code F (show F 38=some (.code f38) from rfl)])<;>(simp only [f38,k1,k2,nm,r1,r2,r3,e1,e2,e3,kz,l1,l2,go_sem,seval])
end Go.Proofs.Ytcecojdeljbjoaa.Sx
namespace Go.Proofs.Ytcecojdeljbjoaa.Sx
open Go
/-! ### names that rise -/
def ltI (a b : ID) : Prop:=a.s < b.s∨a.s=b.s∧a.n < b.n
theorem ltI_trans {a b c : ID} (h : ltI a b) (h' : ltI b c) : ltI a c:=by unfold ltI at *; omega
theorem ltI_irrefl (a : ID) : ¬ ltI a a:=by unfold ltI; omega
theorem ltI_ne {a b : ID} (h : ltI a b) : a≠b:=fun e => ltI_irrefl b (e ▸ h)
theorem ordI_lt {a b : ID} : ordI a b < 0↔ltI a b:=by
  rcases ordI_cases a b with ⟨h,rfl⟩ | ⟨h,h'⟩ | ⟨h,h'⟩
  · rw [h]; constructor
    · intro h; omega
    · intro h; exact absurd h (ltI_irrefl _)
  · rw [h]; exact ⟨fun _ => h',fun _ => by omega⟩
  · rw [h]; constructor
    · intro h; omega
    · intro h; unfold ltI at h; omega
def Rise (l : List ID) : Prop:=(∀ x∈l,mayI x=true)∧l.Pairwise ltI
theorem pair_of_next {α : Type} {R : α→α→Prop} (ht : ∀ a b c,R a b→R b c→R a c) {l : List α} (h : ∀ (i : Nat) (hi : i+1 < l.length),R l[i] l[i+1]) : l.Pairwise R:=by
  rw [List.pairwise_iff_getElem]
  intro i j hi hj hij
  induction j with
  | zero => omega
  | succ j ih =>
    by_cases e : i=j
    · subst e; exact h i hj
    · exact ht _ _ _ (ih (by omega) (by omega)) (h j hj)
theorem riseI_iff (l : List ID) : riseI l=true↔Rise l:=by
  constructor
  · intro h
    unfold riseI at h
    rw [List.all_eq_true] at h
    have hb : ∀ i,i < l.length→badR l i=false:=fun i hi => by simpa using h i (List.mem_range.2 hi)
    refine ⟨fun x hx => ?_,pair_of_next (R:=ltI) (fun a b c => ltI_trans) fun i hi => ?_⟩
    · obtain ⟨i, hi, rfl⟩ := List.mem_iff_getElem.1 hx
      exact (badR_no hi (hb i hi)).1
    · exact ordI_lt.1 ((badR_no hi (hb _ hi)).2 i rfl)
  · rintro ⟨h1, h2⟩
    refine riseI_true fun i hi => ?_
    cases hb : badR l i with
    | false => rfl
    | true =>
      obtain ⟨j,rfl,hj⟩:=badR_yes hi hb (h1 _ (List.getElem_mem hi))
      have:=ordI_lt.2 (List.pairwise_iff_getElem.1 h2 j (j+1) (by omega) hi (by omega))
      omega
theorem Rise.nodup {l : List ID} (h : Rise l) : l.Nodup:=h.2.imp fun h => ltI_ne h
/-! ### the darts of edges -/
def dartsE (es : List Ed) : List Dart:=es.flatMap fun e => [⟨e.id,0⟩,⟨e.id,1⟩]
theorem dartsE_mem {es : List Ed} {x : Dart} : x∈dartsE es↔∃ e∈es,x=⟨e.id,0⟩∨x=⟨e.id,1⟩:=by
  unfold dartsE; rw [List.mem_flatMap]; simp
theorem dartsE_len (es : List Ed) : (dartsE es).length=2 * es.length:=by
  unfold dartsE
  induction es with
  | nil => rfl
  | cons e es ih => rw [List.flatMap_cons,List.length_append,ih]; simp; omega
theorem dartsE_nodup : ∀ {es : List Ed},(es.map Ed.id).Nodup→(dartsE es).Nodup
  | [],_ => by simp [dartsE]
  | e :: es, h => by
    rw [List.map_cons,List.nodup_cons] at h
    unfold dartsE
    rw [List.flatMap_cons,List.nodup_append]
    refine ⟨by simp,dartsE_nodup h.2,fun a ha b hb => ?_⟩
    obtain ⟨f,hf,hb⟩:=dartsE_mem.1 hb
    have hne : f.id≠e.id:=fun he => h.1 (he ▸ List.mem_map.2 ⟨f,hf,rfl⟩)
    rintro rfl
    simp at ha
    rcases ha with rfl | rfl<;>simp at hb<;>exact hne hb.symm
theorem leftE_iff {es : List Ed} {x : Dart} : x∈leftE es↔x∈dartsE es:=by rw [leftE_mem,dartsE_mem]
/-! ### well formed -/
structure WF (l : List Vx) (es : List Ed) : Prop where
  lv : l.length≤24
  le : es.length≤40
  sv : Rise (l.map Vx.id)
  se : Rise (es.map Ed.id)
  tn : ∀ v∈l,v.ring=turn v.ring
  nd : (allR l).Nodup
  mem : ∀ x,x∈allR l↔x∈dartsE es
theorem nodup_count1 {α : Type} [DecidableEq α] {l : List α} (h : ∀ x∈l,l.count x=1) : l.Nodup :=
  List.nodup_iff_count.2 fun x => by
    by_cases hx : x∈l
    · rw [h x hx]; exact Nat.le_refl _
    · rw [List.count_eq_zero_of_not_mem hx]; omega
theorem wf_of {l : List Vx} {es : List Ed} (h1 : l.length≤24) (h2 : es.length≤40) (h3 : riseI (l.map Vx.id)=true) (h4 : riseI (es.map Ed.id)=true) (h5 : ringsB l es=true) : WF l es:=by
  obtain ⟨a,b,c⟩:=(ringsB_iff l es).1 h5
  have hm : ∀ x,x∈allR l↔x∈dartsE es:=fun x => by
    constructor
    · intro hx; exact leftE_iff.1 (b x hx)
    · intro hx
      have:=c x (leftE_iff.2 hx)
      exact List.count_pos_iff.1 (by omega)
  exact ⟨h1,h2,(riseI_iff _).1 h3,(riseI_iff _).1 h4,a,nodup_count1 fun x hx => c x (b x hx),hm⟩
theorem WF.rings {l : List Vx} {es : List Ed} (h : WF l es) : ringsB l es=true :=
  (ringsB_iff l es).2 ⟨h.tn,fun x hx => leftE_iff.2 ((h.mem x).1 hx),fun x hx => count_one h.nd ((h.mem x).2 (leftE_iff.1 hx))⟩
theorem formC_wf {l : List Vx} {es : List Ed} (h : WF l es) : formC l es=if labB l es then 4 else if attB l es then 1 else 0:=by
  unfold formC
  rw [if_neg (by have:=h.lv; have:=h.le; omega),if_neg]
  rw [(riseI_iff _).2 h.sv,(riseI_iff _).2 h.se,h.rings]; simp
theorem formC_no {l : List Vx} {es : List Ed} (h1 : l.length≤24) (h2 : es.length≤40) (h : ¬ WF l es) : formC l es=10:=by
  unfold formC
  rw [if_neg (by omega),if_pos]
  cases a : riseI (l.map Vx.id) with
  | false => exact .inl rfl
  | true => cases b : riseI (es.map Ed.id) with
    | false => exact .inr (.inl rfl)
    | true => cases c : ringsB l es with
      | false => exact .inr (.inr rfl)
      | true => exact absurd (wf_of h1 h2 a b c) h
theorem formC_big {l : List Vx} {es : List Ed} (h : 24 < l.length∨40 < es.length) : formC l es=3:=by
  unfold formC; rw [if_pos (by omega)]
theorem formC_cases (l : List Vx) (es : List Ed) : formC l es=3∨formC l es=10∨WF l es∧(formC l es=4∧labB l es=true∨formC l es=1∧labB l es=false∧attB l es=true∨formC l es=0∧labB l es=false∧attB l es=false):=by
  by_cases hb : 24 < l.length∨40 < es.length
  · exact .inl (formC_big hb)
  · by_cases hw : WF l es
    · refine .inr (.inr ⟨hw, ?_⟩)
      rw [formC_wf hw]
      cases labB l es<;>cases attB l es<;>simp
    · exact .inr (.inl (formC_no (by omega) (by omega) hw))
theorem formC_ok {l : List Vx} {es : List Ed} : formC l es=0↔WF l es∧labB l es=false∧attB l es=false:=by
  constructor
  · intro h
    rcases formC_cases l es with h' | h' | ⟨hw,h' | h' | h'⟩
    · omega
    · omega
    · omega
    · omega
    · exact ⟨hw,h'.2⟩
  · rintro ⟨hw, h1, h2⟩
    rw [formC_wf hw,h1,h2]; rfl
/-! ### what is found in a diagram that is well formed -/
theorem firstBy_of {α : Type} {p : α→Bool} {l : List α} {x : α} (hx : x∈l) (hp : p x=true) (h1 : ∀ y∈l,p y=true→y=x) : firstBy p l=some x:=by
  cases h : firstBy p l with
  | none => rw [firstBy_no h x hx] at hp; cases hp
  | some y => rw [h1 y (firstBy_mem h).1 (firstBy_mem h).2]
theorem inj_of_nodup {α β : Type} {f : α→β} : ∀ {l : List α},(l.map f).Nodup→∀ {x y : α},x∈l→y∈l→f x=f y→x=y
  | a :: l, h, x, y, hx, hy, e => by
    rw [List.map_cons,List.nodup_cons] at h
    rcases List.mem_cons.1 hx with e1 | hx<;>rcases List.mem_cons.1 hy with e2 | hy
    · rw [e1,e2]
    · exact absurd (List.mem_map.2 ⟨y,hy,by rw [← e,e1]⟩) h.1
    · exact absurd (List.mem_map.2 ⟨x,hx,by rw [e,e2]⟩) h.1
    · exact inj_of_nodup h.2 hx hy e
section
variable {l : List Vx} {es : List Ed}
theorem vxBy_mem (h : Rise (l.map Vx.id)) {v : Vx} (hv : v∈l) : vxBy l v.id=some v :=
  firstBy_of hv (decide_eq_true rfl) fun y hy e => inj_of_nodup h.nodup hy hv (of_decide_eq_true e)
theorem atBy_some {x : Dart} {v : Vx} (h : atBy l x=some v) : v∈l∧x∈v.ring:=⟨(firstBy_mem h).1,by simpa using (firstBy_mem h).2⟩
theorem atBy_none {x : Dart} (h : atBy l x=none) : x∉allR l:=fun hx => by
  obtain ⟨v,hv,hx⟩:=(allR_mem l x).1 hx
  have:=firstBy_no h v hv
  simp at this
  exact this hx
theorem ring_one : ∀ {l : List Vx},(allR l).Nodup→∀ {x : Dart} {i j : Nat} (hi : i < l.length) (hj : j < l.length),x∈l[i].ring→x∈l[j].ring→i=j
  | v :: l, h, x, i, j, hi, hj, h1, h2 => by
    unfold allR at h
    rw [List.map_cons,List.flatten_cons,List.nodup_append] at h
    have key : ∀ k (hk : k < l.length),x∈v.ring→x∈l[k].ring→False:=fun k hk a b => h.2.2 x a x ((allR_mem l x).2 ⟨_,List.getElem_mem hk,b⟩) rfl
    cases i with
    | zero => cases j with
      | zero => rfl
      | succ j => exact (key j (by simpa using hj) (by simpa using h1) (by simpa using h2)).elim
    | succ i => cases j with
      | zero => exact (key i (by simpa using hi) (by simpa using h2) (by simpa using h1)).elim
      | succ j => exact congrArg (·+1) (ring_one (l:=l) h.2.1 (x:=x) (i:=i) (j:=j) (by simpa using hi) (by simpa using hj) (by simpa using h1) (by simpa using h2))
theorem at_one (h : (allR l).Nodup) {x : Dart} {v w : Vx} (hv : v∈l) (hw : w∈l) (h1 : x∈v.ring) (h2 : x∈w.ring) : v=w:=by
  obtain ⟨i,hi,rfl⟩:=List.mem_iff_getElem.1 hv
  obtain ⟨j,hj,rfl⟩:=List.mem_iff_getElem.1 hw
  have e:=ring_one h hi hj h1 h2
  simp only [e]
theorem atBy_mem (h : (allR l).Nodup) {x : Dart} {v : Vx} (hv : v∈l) (hx : x∈v.ring) : atBy l x=some v :=
  firstBy_of hv (decide_eq_true hx) fun y hy e => at_one h hy hv (of_decide_eq_true e) hx
theorem len_of_mem {α : Type} [DecidableEq α] {a b : List α} (ha : a.Nodup) (hb : b.Nodup) (h : ∀ x,x∈a↔x∈b) : a.length=b.length :=
  ((List.perm_ext_iff_of_nodup ha hb).2 h).length_eq
theorem WF.many (h : WF l es) : (allR l).length=2 * es.length:=by
  rw [len_of_mem h.nd (dartsE_nodup h.se.nodup) h.mem,dartsE_len]
end
end Go.Proofs.Ytcecojdeljbjoaa.Sx
namespace Go.Proofs.Ytcecojdeljbjoaa.Sx
open Go
def Rot (l m : List Dart) : Prop:=∃ a b,l=a++b∧m=b++a
theorem Rot.refl (l : List Dart) : Rot l l:=⟨l,[],by simp,by simp⟩
theorem Rot.symm {l m : List Dart} : Rot l m→Rot m l:=fun ⟨a,b,h1,h2⟩ => ⟨b,a,h2,h1⟩
theorem Rot.trans {l m k : List Dart} (h : Rot l m) (h2 : Rot m k) : Rot l k:=by
  obtain ⟨a,b,rfl,rfl⟩:=h
  obtain ⟨c,d,e,rfl⟩:=h2
  rcases List.append_eq_append_iff.1 e with ⟨x,rfl,rfl⟩ | ⟨x,rfl,rfl⟩
  · exact ⟨x,d++b,by simp,by simp⟩
  · exact ⟨a++c,x,by simp,by simp⟩
theorem Rot.mem {l m : List Dart} (h : Rot l m) (x : Dart) : x∈l↔x∈m:=by
  obtain ⟨a,b,rfl,rfl⟩:=h; simp [or_comm]
theorem Rot.len {l m : List Dart} (h : Rot l m) : l.length=m.length:=by
  obtain ⟨a,b,rfl,rfl⟩:=h; simp; omega
theorem Rot.nodup {l m : List Dart} (h : Rot l m) (hl : l.Nodup) : m.Nodup:=by
  obtain ⟨a,b,rfl,rfl⟩:=h
  rw [List.nodup_append] at hl ⊢
  exact ⟨hl.2.1,hl.1,fun x hx y hy e => hl.2.2 y hy x hx e.symm⟩
theorem Rot.map {l m : List Dart} (h : Rot l m) (f : Dart→Dart) : Rot (l.map f) (m.map f):=by
  obtain ⟨a,b,rfl,rfl⟩:=h; exact ⟨a.map f,b.map f,by simp,by simp⟩
theorem Rot.filter {l m : List Dart} (h : Rot l m) (p : Dart→Bool) : Rot (l.filter p) (m.filter p):=by
  obtain ⟨a,b,rfl,rfl⟩:=h; exact ⟨a.filter p,b.filter p,by simp,by simp⟩
theorem erase_filt (x : Dart) : ∀ {l : List Dart},l.Nodup→l.erase x=l.filter (fun y => decide (¬ y=x))
  | [],_ => rfl
  | y :: l, h => by
    rw [List.nodup_cons] at h
    by_cases e : y=x
    · subst e
      rw [List.erase_cons_head,List.filter_cons_of_neg (by simp)]
      symm
      rw [List.filter_eq_self]
      intro z hz; simp; intro e; subst e; exact h.1 hz
    · rw [List.erase_cons_tail (by simpa using e),List.filter_cons_of_pos (by simpa using e),erase_filt x h.2]
def ga (l : List Dart) (i : Nat) : Dart:=l.getD (i % l.length) Dart0
theorem ga_lt {l : List Dart} {i : Nat} (h : i < l.length) : ga l i=l[i]:=by
  unfold ga; rw [Nat.mod_eq_of_lt h,List.getD_eq_getElem?_getD,List.getElem?_eq_getElem h]; rfl
theorem ga_mod (l : List Dart) (i : Nat) : ga l (i % l.length)=ga l i:=by unfold ga; rw [Nat.mod_mod]
theorem ga_mem {l : List Dart} (h : 0 < l.length) (i : Nat) : ga l i∈l:=by
  rw [← ga_mod,ga_lt (Nat.mod_lt _ h)]; exact List.getElem_mem _
theorem ga_inj {l : List Dart} (hn : l.Nodup) (h : 0 < l.length) {i j : Nat} (e : ga l i=ga l j) : i % l.length=j % l.length:=by
  rw [← ga_mod,← ga_mod l j,ga_lt (Nat.mod_lt _ h),ga_lt (Nat.mod_lt _ h)] at e
  exact (List.getElem_inj hn).1 e
theorem ga_idx {l : List Dart} {x : Dart} (h : x∈l) : ga l (l.idxOf x)=x:=by
  obtain ⟨h1,h2⟩:=idxOf_at h
  rw [ga_lt h1]; exact h2
theorem ga_swap (a b : List Dart) (i : Nat) : ga (b++a) i=ga (a++b) (i+a.length):=by
  by_cases h0 : (a++b).length=0
  · have ha : a = [] := List.eq_nil_of_length_eq_zero (by simp at h0; simp [h0])
    subst ha; simp
  · have hlen : (b ++ a).length = (a ++ b).length := by simp; omega
    have hpos : 0 < (a++b).length:=by omega
    rw [← ga_mod (b++a),← ga_mod (a++b) (i+a.length),← Nat.mod_add_mod,hlen]
    have hr : i % (a++b).length < (a++b).length:=Nat.mod_lt _ hpos
    generalize i % (a++b).length=r at hr
    rw [ga_mod,ga_lt (by rw [hlen]; exact hr)]
    have hl2 : (a++b).length=a.length+b.length:=by simp
    by_cases h : r < b.length
    · rw [ga_lt (by omega), List.getElem_append_left h, List.getElem_append_right (by omega)]
      congr 1; omega
    · rw [← ga_mod, Nat.mod_eq_sub_mod (by omega), Nat.mod_eq_of_lt (by omega), ga_lt (by omega), List.getElem_append_right (by omega), List.getElem_append_left (by omega)]
      congr 1; omega
theorem Rot.ga {l m : List Dart} (h : Rot l m) : ∃ j,∀ i,ga m i=ga l (i+j):=by
  obtain ⟨a,b,rfl,rfl⟩:=h
  exact ⟨a.length,ga_swap a b⟩
theorem byD_ga {l : List Dart} {x : Dart} (h : x∈l) (n : Nat) : byD l x n=ga l (l.idxOf x+n):=by unfold byD ga; rw [if_pos h]
theorem byD_at {l : List Dart} (hn : l.Nodup) (h : 0 < l.length) (i n : Nat) : byD l (ga l i) n=ga l (i+n):=by
  have hm:=ga_mem h i
  rw [byD_ga hm]
  have e:=ga_inj hn h (ga_idx hm)
  rw [← ga_mod,← Nat.mod_add_mod,e,Nat.mod_add_mod,ga_mod]
theorem byD_rot {l m : List Dart} (hn : l.Nodup) (h : Rot l m) (x : Dart) (n : Nat) : byD m x n=byD l x n:=by
  by_cases hx : x∈l
  · have hm := (h.mem x).1 hx
    have hpos : 0 < l.length:=List.length_pos_of_mem hx
    obtain ⟨j,hj⟩:=h.ga
    rw [byD_ga hm,hj]
    have e : ga l (m.idxOf x+j)=x:=by rw [← hj,ga_idx hm]
    conv => rhs; rw [← e]
    rw [byD_at hn hpos]
    congr 1; omega
  · unfold byD; rw [if_neg hx,if_neg (fun hm => hx ((h.mem x).2 hm))]
theorem nextD_ga {l : List Dart} (hn : l.Nodup) (h : 0 < l.length) (i : Nat) : nextD l (ga l i)=ga l (i+1):=byD_at hn h i 1
theorem ends {l : List Dart} {x : Dart} (hx : x∈l) : ∃ w,Rot l (w++[x]):=by
  obtain ⟨a,b,rfl⟩:=List.append_of_mem hx
  exact ⟨b++a,a++[x],b,by simp,by simp⟩
theorem joined {l : List Dart} (hn : l.Nodup) {x : Dart} (hx : x∈l) (h3 : ¬ l.length < 3) : nextD (l.erase x) (prevD l x)=nextD l x:=by
  obtain ⟨w,hw⟩:=ends hx
  have hnw:=hw.nodup hn
  have hlw:=hw.len
  have hl2 : (w++[x]).length=w.length+1:=by simp
  have hxw : x∉w:=by
    rw [List.nodup_append] at hnw
    intro h; exact hnw.2.2 x h x (by simp) rfl
  have hnw' : w.Nodup:=by rw [List.nodup_append] at hnw; exact hnw.1
  have er : Rot (l.erase x) w:=by
    rw [erase_filt x hn]
    have:=hw.filter (fun y => decide (¬ y=x))
    rw [← erase_filt x hnw,List.erase_append_right _ hxw] at this
    simpa using this
  have hm2 : 2≤w.length:=by omega
  have hpos : 0 < (w++[x]).length:=by omega
  have gx : ga (w++[x]) w.length=x:=by
    rw [ga_lt (by omega)]; simp
  have key : ∀ t,byD l x t=ga (w++[x]) (w.length+t):=by
    intro t
    rw [← byD_rot hn hw]
    have:=byD_at hnw hpos w.length t
    rw [gx] at this; exact this
  unfold nextD prevD
  rw [key,key,← byD_rot (hn.erase x) er]
  have e1 : ga (w++[x]) (w.length+(l.length - 1))=ga w (w.length - 1):=by
    rw [← ga_mod,show (w.length+(l.length - 1)) % (w++[x]).length=w.length - 1 by
      rw [hlw,hl2,Nat.mod_eq_sub_mod (by omega),Nat.mod_eq_of_lt (by omega)]; omega,ga_lt (by omega),ga_lt (by omega),List.getElem_append_left (by omega)]
  have e2 : ga (w++[x]) (w.length+1)=ga w (w.length - 1+1):=by
    rw [← ga_mod,show (w.length+1) % (w++[x]).length=0 by rw [hl2,Nat.mod_self],← ga_mod w,show (w.length - 1+1) % w.length=0 by rw [Nat.sub_add_cancel (by omega),Nat.mod_self],ga_lt (by omega),ga_lt (by omega),List.getElem_append_left (by omega)]
  rw [e1,e2,byD_at hnw' (by omega)]
end Go.Proofs.Ytcecojdeljbjoaa.Sx
namespace Go.Proofs.Ytcecojdeljbjoaa.Sx
open Go
theorem Rot.count {l m : List Dart} (h : Rot l m) (y : Dart) : l.count y=m.count y:=by
  obtain ⟨a,b,rfl,rfl⟩:=h
  rw [List.count_append,List.count_append]; omega
theorem allR_cons (v : Vx) (m : List Vx) : allR (v :: m)=v.ring++allR m:=by unfold allR; rw [List.map_cons,List.flatten_cons]
theorem count_set : ∀ {l : List Vx} {k : Nat} (hk : k < l.length) (u : Vx) (y : Dart),(allR (l.set k u)).count y+l[k].ring.count y=(allR l).count y+u.ring.count y
  | v :: l, 0, _, u, y => by
    show (allR (u :: l)).count y+v.ring.count y=_
    rw [allR_cons,allR_cons,List.count_append,List.count_append]; omega
  | v :: l, k + 1, hk, u, y => by
    have:=count_set (l:=l) (k:=k) (by simpa using hk) u y
    show (allR (v :: l.set k u)).count y+(l[k]'(by simpa using hk)).ring.count y=_
    rw [allR_cons,allR_cons,List.count_append,List.count_append]; omega
def reR (v : Vx) (r : List Dart) : Vx:=⟨v.id,r,v.label,v.attr⟩
theorem ring_nodup {v : List Vx} (h : (allR v).Nodup) {u : Vx} (hu : u∈v) : u.ring.Nodup:=by
  rw [List.nodup_iff_count]
  intro y
  have h1:=List.nodup_iff_count.1 h y
  obtain ⟨k,hk,rfl⟩:=List.mem_iff_getElem.1 hu
  have h2:=count_set hk (reR v[k] []) y
  have h3 : (reR v[k] []).ring.count y=0:=rfl
  omega
end Go.Proofs.Ytcecojdeljbjoaa.Sx
namespace Go.Proofs.Ytcecojdeljbjoaa.Sx
def Pth {α : Type} (f : α→α) : α→List α→α→Prop
  | x,[],y => f x=y
  | x,z :: r,y => f x=z∧Pth f z r y
theorem Pth.app {α : Type} {f : α→α} : ∀ {r : List α} {x z y : α} {s : List α},Pth f x (r++z :: s) y↔Pth f x r z∧Pth f z s y
  | [],x,z,y,s => Iff.rfl
  | w :: r,x,z,y,s => by simp only [List.cons_append,Pth,Pth.app (r:=r),and_assoc]
theorem Pth.closed {α : Type} {f : α→α} {S : α→Prop} (hS : ∀ z,S z→S (f z)) : ∀ {r : List α} {x y : α},Pth f x r y→S x→(∀ z∈r,S z)∧S y
  | [], x, y, h, hx => by
    have h : f x=y:=h
    exact ⟨fun z hz => (by cases hz),h ▸ hS x hx⟩
  | w :: r, x, y, h, hx => by
    have hw : S w:=h.1 ▸ hS x hx
    obtain ⟨a,b⟩:=Pth.closed hS h.2 hw
    refine ⟨fun z hz => ?_,b⟩
    rcases List.mem_cons.1 hz with rfl | hz
    · exact hw
    · exact a z hz
theorem Pth.mem {α : Type} {f : α→α} : ∀ {r : List α} {x y : α},Pth f x r y→∀ z∈x :: r,f z∈r++[y]
  | [], x, y, h, z, hz => by
    have : z=x:=by simpa using hz
    subst this; rw [show f z=y from h]; simp
  | w :: r, x, y, h, z, hz => by
    rcases List.mem_cons.1 hz with rfl | hz
    · rw [h.1]; simp
    · have := Pth.mem h.2 z hz
      simp only [List.cons_append,List.mem_cons]
      exact .inr this
theorem Pth.change {α : Type} {f g : α→α} {y w : α} : ∀ {r : List α} {x : α},Pth f x r y→y∉r→(∀ z∈x :: r,f z≠y→g z=f z)→(∀ z∈x :: r,f z=y→g z=w)→Pth g x r w
  | [],x,h,_,_,h2 => h2 x (by simp) h
  | z :: r, x, h, hy, h1, h2 => by
    refine ⟨?_,Pth.change h.2 (fun hm => hy (by simp [hm])) (fun u hu => h1 u (by simp at hu ⊢; exact .inr hu)) (fun u hu => h2 u (by simp at hu ⊢; exact .inr hu))⟩
    rw [h1 x (by simp) (by rw [h.1]; rintro rfl; exact hy (by simp)),h.1]
theorem Pth.congr {α : Type} {f g : α→α} {y : α} : ∀ {r : List α} {x : α},Pth f x r y→(∀ z∈x :: r,g z=f z)→Pth g x r y
  | [],x,h,h1 => (h1 x (by simp)).trans h
  | z :: r,x,h,h1 => ⟨(h1 x (by simp)).trans h.1,Pth.congr h.2 fun u hu => h1 u (by simp at hu ⊢; exact .inr hu)⟩
def Cy {α : Type} (f : α→α) : List α→Prop
  | [] => False
  | x :: r => Pth f x r x
theorem Cy.rot {α : Type} {f : α→α} {r s : List α} {z : α} (h : Cy f (r++z :: s)) : Cy f (z :: (s++r)):=by
  cases r with
  | nil => simpa using h
  | cons x r =>
    obtain ⟨a,b⟩:=Pth.app.1 (show Pth f x (r++z :: s) x from h)
    exact Pth.app.2 ⟨b,a⟩
theorem Cy.step {α : Type} {f : α→α} {c : List α} (h : Cy f c) {z : α} (hz : z∈c) : f z∈c:=by
  cases c with
  | nil => cases h
  | cons x r =>
    have:=Pth.mem (show Pth f x r x from h) z hz
    simp only [List.mem_append,List.mem_singleton] at this
    rcases this with h | h
    · simp [h]
    · simp [h]
theorem Cy.within {α : Type} {f : α→α} {c : List α} (h : Cy f c) {S : α→Prop} (hS : ∀ z,S z→S (f z)) {z : α} (hz : z∈c) (hs : S z) : ∀ y∈c,S y:=by
  obtain ⟨r,s,rfl⟩:=List.append_of_mem hz
  have:=(Pth.closed hS (show Pth f z (s++r) z from h.rot) hs).1
  intro y hy
  simp only [List.mem_append,List.mem_cons] at hy
  rcases hy with hy | rfl | hy
  · exact this y (by simp [hy])
  · exact hs
  · exact this y (by simp [hy])
theorem Cy.sub {α : Type} {f : α→α} {c d : List α} (hc : Cy f c) (hd : Cy f d) {z : α} (h1 : z∈c) (h2 : z∈d) : ∀ y∈c,y∈d :=
  hc.within (S:=fun y => y∈d) (fun _ => hd.step) h1 h2
structure Dec {α : Type} (f : α→α) (D : List α) (cs : List (List α)) : Prop where
  cy : ∀ c∈cs,Cy f c
  nd : cs.flatten.Nodup
  mem : ∀ x,x∈cs.flatten↔x∈D
theorem Dec.perm {α : Type} {f : α→α} {D : List α} {cs ds : List (List α)} (h : Dec f D cs) (p : cs.Perm ds) : Dec f D ds:=by
  have pf:=p.flatten
  exact ⟨fun c hc => h.cy c (p.mem_iff.2 hc),(pf.nodup_iff).1 h.nd,fun x => by rw [← pf.mem_iff,h.mem]⟩
theorem Dec.turn {α : Type} {f : α→α} {D : List α} {cs : List (List α)} {r s : List α} {z : α} (h : Dec f D ((r++z :: s) :: cs)) : Dec f D ((z :: (s++r)) :: cs):=by
  have pf : ((r++z :: s) :: cs).flatten.Perm ((z :: (s++r)) :: cs).flatten:=by
    rw [List.flatten_cons,List.flatten_cons]
    exact List.Perm.append_right _ (by
      have:=List.perm_append_comm (l₁:=r) (l₂:=z :: s)
      simpa using this)
  refine ⟨fun c hc => ?_,(pf.nodup_iff).1 h.nd,fun x => by rw [← pf.mem_iff,h.mem]⟩
  rcases List.mem_cons.1 hc with rfl | hc
  · exact (h.cy _ (by simp)).rot
  · exact h.cy c (by simp [hc])
theorem perm_front {α : Type} {l : List α} {x : α} (h : x∈l) : ∃ r,l.Perm (x :: r):=by
  obtain ⟨a,b,rfl⟩:=List.append_of_mem h
  exact ⟨a++b,List.perm_middle⟩
theorem Dec.front {α : Type} {f : α→α} {D : List α} {cs : List (List α)} (h : Dec f D cs) {x : α} (hx : x∈D) : ∃ A rest c,c∈cs∧x∈c∧(∀ y,y∈c↔y∈x :: A)∧cs.Perm (c :: rest)∧Dec f D ((x :: A) :: rest):=by
  obtain ⟨c,hc,hxc⟩:=List.mem_flatten.1 ((h.mem x).2 hx)
  obtain ⟨rest,p⟩:=perm_front hc
  have h1:=h.perm p
  obtain ⟨r,s,rfl⟩:=List.append_of_mem hxc
  exact ⟨s++r,rest,_,hc,hxc,fun y => by simp only [List.mem_append,List.mem_cons]; constructor<;>(rintro (h | h | h)<;>simp [h]),p,h1.turn⟩
theorem Dec.step {α : Type} {f : α→α} {D : List α} {cs : List (List α)} (h : Dec f D cs) {x : α} (hx : x∈D) : f x∈D:=by
  obtain ⟨c,hc,hxc⟩:=List.mem_flatten.1 ((h.mem x).2 hx)
  exact (h.mem _).1 (List.mem_flatten.2 ⟨c,hc,(h.cy c hc).step hxc⟩)
theorem cy_le {α : Type} {f : α→α} {p : List α→Bool} : ∀ {cs ds : List (List α)},(∀ c∈cs,Cy f c)→(∀ d∈ds,Cy f d)→cs.flatten.Nodup→(∀ x∈cs.flatten,x∈ds.flatten) →
    (∀ c∈cs,∀ d∈ds,∀ x,x∈c→x∈d→p c=p d)→(cs.filter p).length≤(ds.filter p).length
  | [],ds,_,_,_,_,_ => by simp
  | c :: cs, ds, h1, h2, hn, hs, hp => by
    have hc:=h1 c (by simp)
    cases c with
    | nil => cases hc
    | cons x r =>
      rw [List.flatten_cons,List.nodup_append] at hn
      obtain ⟨d,hd,hx⟩:=List.mem_flatten.1 (hs x (by simp))
      obtain ⟨rest,pm⟩:=perm_front hd
      have ih:=cy_le (cs:=cs) (ds:=rest) (p:=p) (fun c hc => h1 c (by simp [hc])) (fun d hd => h2 d (pm.mem_iff.2 (by simp [hd]))) hn.2.1 (fun y hy => by
        have hy1:=(pm.flatten.mem_iff).1 (hs y (by simp only [List.flatten_cons,List.mem_append]; exact .inr hy))
        rw [List.flatten_cons,List.mem_append] at hy1
        rcases hy1 with hyd | hyr
        · exfalso
          obtain ⟨e,he,hye⟩:=List.mem_flatten.1 hy
          have h3:=(h2 d hd).sub (h1 e (by simp [he])) hyd hye x hx
          exact hn.2.2 x (by simp) x (List.mem_flatten.2 ⟨e,he,h3⟩) rfl
        · exact hyr) (fun c hc d hd => hp c (by simp [hc]) d (pm.mem_iff.2 (by simp [hd])))
      have e1 : p (x :: r)=p d:=hp _ (by simp) d hd x (by simp) hx
      have e2:=(pm.filter p).length_eq
      rw [e2,List.filter_cons,List.filter_cons,e1]
      cases p d<;>simp<;>exact ih
theorem Dec.len_le {α : Type} {f : α→α} {D : List α} {cs ds : List (List α)} (h : Dec f D cs) (k : Dec f D ds) : cs.length≤ds.length:=by
  have:=cy_le (p:=fun _ => true) h.cy k.cy h.nd (fun x hx => (k.mem x).2 ((h.mem x).1 hx)) (fun _ _ _ _ _ _ _ => rfl)
  rw [List.filter_eq_self.2 (fun _ _ => rfl),List.filter_eq_self.2 (fun _ _ => rfl)] at this
  exact this
theorem Dec.len {α : Type} {f : α→α} {D : List α} {cs ds : List (List α)} (h : Dec f D cs) (k : Dec f D ds) : cs.length=ds.length :=
  Nat.le_antisymm (h.len_le k) (k.len_le h)
theorem nodup_of_flat {α : Type} : ∀ {cs : List (List α)},cs.flatten.Nodup→∀ c∈cs,c.Nodup
  | d :: cs, h, c, hc => by
    rw [List.flatten_cons,List.nodup_append] at h
    rcases List.mem_cons.1 hc with rfl | hc
    · exact h.1
    · exact nodup_of_flat h.2.1 c hc
theorem Dec.sizes {α : Type} [DecidableEq α] {f : α→α} {D : List α} {cs ds : List (List α)} (h : Dec f D cs) (k : Dec f D ds) (n : Nat) : (cs.filter (fun c => decide (c.length=n))).length=(ds.filter (fun c => decide (c.length=n))).length:=by
  have key : ∀ {cs ds : List (List α)},Dec f D cs→Dec f D ds→∀ c∈cs,∀ d∈ds,∀ x,x∈c→x∈d→decide (c.length=n)=decide (d.length=n):=by
    intro cs ds h k c hc d hd x h1 h2
    have : c.length=d.length:=len_of_mem (nodup_of_flat h.nd c hc) (nodup_of_flat k.nd d hd) fun y => ⟨(h.cy c hc).sub (k.cy d hd) h1 h2 y,(k.cy d hd).sub (h.cy c hc) h2 h1 y⟩
    rw [this]
  exact Nat.le_antisymm (cy_le h.cy k.cy h.nd (fun x hx => (k.mem x).2 ((h.mem x).1 hx)) (key h k)) (cy_le k.cy h.cy k.nd (fun x hx => (h.mem x).2 ((k.mem x).1 hx)) (key k h))
theorem Dec.congr {α : Type} {f g : α→α} {D : List α} {cs : List (List α)} (h : Dec f D cs) (e : ∀ x∈D,g x=f x) : Dec g D cs:=by
  refine ⟨fun c hc => ?_,h.nd,h.mem⟩
  have:=h.cy c hc
  cases c with
  | nil => cases this
  | cons x r => exact Pth.congr this fun z hz => e z ((h.mem z).1 (List.mem_flatten.2 ⟨_,hc,hz⟩))
def cutF {α : Type} [DecidableEq α] (f : α→α) (a b : α) (y : α) : α:=if f y=a then (if f b=b then f a else f b) else if f y=b then (if f a=a then f b else f a) else f y
def neL {α : Type} : List α→List (List α)
  | [] => []
  | x :: r => [x :: r]
theorem neL_flat {α : Type} (l : List α) : (neL l).flatten=l:=by cases l<;>simp [neL]
theorem Dec.front2 {α : Type} {f : α→α} {D : List α} {c : List α} {rest : List (List α)} (h : Dec f D (c :: rest)) {b : α} (hb : b∈rest.flatten) : ∃ B rest',rest.length=rest'.length+1∧Dec f D (c :: (b :: B) :: rest'):=by
  obtain ⟨d,hd,hbd⟩:=List.mem_flatten.1 hb
  obtain ⟨rest',pm⟩:=perm_front hd
  obtain ⟨r,s,rfl⟩:=List.append_of_mem hbd
  refine ⟨s++r,rest',by rw [pm.length_eq]; rfl,?_⟩
  have h1:=h.perm ((pm.cons c).trans (List.Perm.swap _ _ _))
  exact h1.turn.perm (List.Perm.swap _ _ _)
theorem Dec.left {α : Type} {f : α→α} {D : List α} {cs : List (List α)} (h : Dec f D cs) {a b : α} {T : List α} (p : cs.flatten.Perm (a :: b :: T)) :
    a≠b∧a∉T∧b∉T∧T.Nodup∧∀ y,y∈T↔y∈D∧y≠a∧y≠b:=by
  have hn:=(p.nodup_iff).1 h.nd
  rw [List.nodup_cons,List.nodup_cons,List.mem_cons,not_or] at hn
  obtain ⟨⟨h1,h2⟩,h3,h4⟩:=hn
  refine ⟨h1,h2,h3,h4,fun y => ?_⟩
  rw [← h.mem y,p.mem_iff,List.mem_cons,List.mem_cons]
  constructor
  · intro hy; exact ⟨.inr (.inr hy),fun e => h2 (e ▸ hy),fun e => h3 (e ▸ hy)⟩
  · rintro ⟨h | h | h, i, j⟩
    · exact absurd h i
    · exact absurd h j
    · exact h
theorem Cy.cutCongr {α : Type} [DecidableEq α] {f g : α→α} {a b : α} {c : List α} (h : Cy f c) (ha : a∉c) (hb : b∉c) (hg : ∀ y∈c,g y=cutF f a b y) : Cy g c:=by
  cases c with
  | nil => cases h
  | cons x r =>
    refine Pth.congr h fun z hz => ?_
    have:=h.step hz
    rw [hg z hz]; unfold cutF
    rw [if_neg (fun e => ha (by rw [← e]; exact this)),if_neg (fun e => hb (by rw [← e]; exact this))]
theorem Dec.cut {α : Type} [DecidableEq α] {f g : α→α} {D D' : List α} {cs : List (List α)} (h : Dec f D cs) {a b : α} (ha : a∈D) (hb : b∈D) (hab : a≠b)
    (hD : ∀ x,x∈D'↔x∈D∧x≠a∧x≠b) (hg : ∀ y∈D',g y=cutF f a b y) :
    ∃ cs',Dec g D' cs'∧((∃ c∈cs,a∈c∧b∈c)∧cs'.length+(if f a=b then 1 else 0)+(if f b=a then 1 else 0)=cs.length+1∧(∀ u∈D',∀ w∈D',f u=a→f w=b→¬ ∃ c∈cs',u∈c∧w∈c) ∨
      (¬ ∃ c∈cs,a∈c∧b∈c)∧cs'.length+1+(if f a=a∧f b=b then 1 else 0)=cs.length∧(∀ u∈D',∀ w∈D',f u=a→f w=b→∃ c∈cs',u∈c∧w∈c)):=by
  obtain ⟨A,rest,c,hc,hac,hcA,pm,h1⟩:=h.front ha
  have hlen : cs.length=rest.length+1:=by rw [pm.length_eq]; rfl
  have pA : Pth f a A a:=h1.cy (a :: A) (by simp)
  by_cases hbA : b∈A
  · obtain ⟨A1, B, rfl⟩ := List.append_of_mem hbA
    obtain ⟨p1,p2⟩:=Pth.app.1 pA
    obtain ⟨_,haT,hbT,hT,hm⟩:=h1.left (T:=A1++(B++rest.flatten)) (a:=a) (b:=b) (by
      rw [List.flatten_cons]
      simp only [List.cons_append,List.append_assoc]
      exact (List.perm_middle).cons a)
    have hTg : ∀ y∈A1++(B++rest.flatten),g y=cutF f a b y:=fun y hy => hg y ((hD y).2 ((hm y).1 hy))
    simp only [List.mem_append,not_or] at haT hbT
    have cA : ∀ c∈neL A1,Cy g c:=by
      intro c hc
      cases A1 with
      | nil => cases hc
      | cons x r =>
        have : c=x :: r:=by simpa [neL] using hc
        subst this
        obtain ⟨e1,e2⟩:=p1
        have hmem:=Pth.mem e2
        refine Pth.change e2 (fun hm => hbT.1 (by simp [hm])) (fun z hz hne => ?_) (fun z hz he => ?_)
        · rw [hTg z (by simp only [List.mem_append]; exact .inl hz)]; unfold cutF
          rw [if_neg,if_neg hne]
          intro e
          have:=hmem z hz
          rw [e] at this
          simp only [List.mem_append,List.mem_singleton] at this
          rcases this with h | h
          · exact haT.1 (by simp [h])
          · exact hab h
        · rw [hTg z (by simp only [List.mem_append]; exact .inl hz)]; unfold cutF
          rw [if_neg (by rw [he]; exact fun e => hab e.symm),if_pos he,if_neg,e1]
          rw [e1]; rintro rfl; exact haT.1 (by simp)
    have cB : ∀ c∈neL B,Cy g c:=by
      intro c hc
      cases B with
      | nil => cases hc
      | cons x r =>
        have : c=x :: r:=by simpa [neL] using hc
        subst this
        obtain ⟨e1,e2⟩:=p2
        have hmem:=Pth.mem e2
        refine Pth.change e2 (fun hm => haT.2.1 (by simp [hm])) (fun z hz hne => ?_) (fun z hz he => ?_)
        · rw [hTg z (by simp only [List.mem_append]; exact .inr (.inl hz))]; unfold cutF
          rw [if_neg hne,if_neg]
          intro e
          have:=hmem z hz
          rw [e] at this
          simp only [List.mem_append,List.mem_singleton] at this
          rcases this with h | h
          · exact hbT.2.1 (by simp [h])
          · exact hab h.symm
        · rw [hTg z (by simp only [List.mem_append]; exact .inr (.inl hz))]; unfold cutF
          rw [if_pos he,if_neg,e1]
          rw [e1]; rintro rfl; exact hbT.2.1 (by simp)
    have rstep : ∀ z∈rest.flatten,f z∈rest.flatten:=fun z hz => by
      obtain ⟨d,hd,hzd⟩:=List.mem_flatten.1 hz
      exact List.mem_flatten.2 ⟨d,hd,(h1.cy d (by simp [hd])).step hzd⟩
    have inB : ∀ u∈D',f u=a→u∈B:=fun u hu e => by
      have hT':=(hm u).2 ((hD u).1 hu)
      rcases List.mem_append.1 hT' with h | h
      · exfalso
        cases A1 with
        | nil => cases h
        | cons x r =>
          have:=Pth.mem p1.2 u h
          rw [e] at this
          simp only [List.mem_append,List.mem_singleton] at this
          rcases this with h | h
          · exact haT.1 (by simp [h])
          · exact hab h
      · rcases List.mem_append.1 h with h | h
        · exact h
        · have := rstep u h
          rw [e] at this
          exact absurd this haT.2.2
    have inA : ∀ u∈D',f u=b→u∈A1:=fun u hu e => by
      have hT':=(hm u).2 ((hD u).1 hu)
      rcases List.mem_append.1 hT' with h | h
      · exact h
      · exfalso
        rcases List.mem_append.1 h with h | h
        · cases B with
          | nil => cases h
          | cons x r =>
            have:=Pth.mem p2.2 u h
            rw [e] at this
            simp only [List.mem_append,List.mem_singleton] at this
            rcases this with h | h
            · exact hbT.2.1 (by simp [h])
            · exact hab h.symm
        · have := rstep u h
          rw [e] at this
          exact absurd this hbT.2.2
    have hT2:=hT
    rw [List.nodup_append,List.nodup_append] at hT2
    refine ⟨neL A1++(neL B++rest),⟨fun c hc => ?_,?_,fun y => ?_⟩,.inl ⟨⟨c,hc,hac,(hcA b).2 (by simp)⟩,?_,?_⟩⟩
    · rcases List.mem_append.1 hc with hc | hc
      · exact cA c hc
      · rcases List.mem_append.1 hc with hc | hc
        · exact cB c hc
        · have hin : ∀ y ∈ c, y ∈ rest.flatten := fun y hy => List.mem_flatten.2 ⟨c, hc, hy⟩
          exact (h1.cy c (by simp [hc])).cutCongr (fun hm => haT.2.2 (hin _ hm)) (fun hm => hbT.2.2 (hin _ hm)) fun y hy => hTg y (by simp [hin y hy])
    · simpa [neL_flat] using hT
    · rw [hD,← hm y]; simp [neL_flat]
    · rw [hlen]
      have k1 : (f a=b)↔A1=[]:=by
        constructor
        · intro e
          cases A1 with
          | nil => rfl
          | cons x r => exact absurd (show b∈x :: r by have:=p1.1; rw [e] at this; rw [this]; simp) hbT.1
        · rintro rfl; exact p1
      have k2 : (f b=a)↔B=[]:=by
        constructor
        · intro e
          cases B with
          | nil => rfl
          | cons x r => exact absurd (show a∈x :: r by have:=p2.1; rw [e] at this; rw [this]; simp) haT.2.1
        · rintro rfl; exact p2
      simp only [k1,k2]
      cases A1<;>cases B<;>simp [neL]<;>omega
    · rintro u hu w hw eu ew ⟨c, hc, huc, hwc⟩
      have huB:=inB u hu eu
      have hwA:=inA w hw ew
      have ne : ∀ {l : List α} {c : List α},c∈neL l→∀ y∈c,y∈l:=fun {l c} h y hy => by
        cases l with
        | nil => cases h
        | cons x r =>
          have : c=x :: r:=by simpa [neL] using h
          rw [this] at hy; exact hy
      rcases List.mem_append.1 hc with hc | hc
      · exact hT2.2.2 u (ne hc u huc) u (by simp [huB]) rfl
      · rcases List.mem_append.1 hc with hc | hc
        · exact hT2.2.2 w hwA w (by simp [ne hc w hwc]) rfl
        · exact hT2.2.1.2.2 u huB u (List.mem_flatten.2 ⟨c,hc,huc⟩) rfl
  · have hbr : b∈rest.flatten:=by
      have:=(h1.mem b).2 hb
      rw [List.flatten_cons,List.mem_append,List.mem_cons] at this
      rcases this with (e | e) | e
      · exact absurd e.symm hab
      · exact absurd e hbA
      · exact e
    obtain ⟨B,rest',hl2,h2⟩:=h1.front2 hbr
    have pB : Pth f b B b:=h2.cy (b :: B) (by simp)
    obtain ⟨_,haT,hbT,hT,hm⟩:=h2.left (T:=A++(B++rest'.flatten)) (a:=a) (b:=b) (by
      rw [List.flatten_cons,List.flatten_cons]
      simp only [List.cons_append]
      exact (List.perm_middle).cons a)
    have hTg : ∀ y∈A++(B++rest'.flatten),g y=cutF f a b y:=fun y hy => hg y ((hD y).2 ((hm y).1 hy))
    simp only [List.mem_append,not_or] at haT hbT
    have hnot : ¬ ∃ c∈cs,a∈c∧b∈c:=by
      rintro ⟨d,hd,had,hbd⟩
      have:=(hcA b).1 ((h.cy d hd).sub (h.cy c hc) had hac b hbd)
      rcases List.mem_cons.1 this with e | e
      · exact hab e.symm
      · exact hbA e
    -- a step from A,from B
    have gA : ∀ z∈A,f z≠a→g z=f z:=by
      intro z hz hne
      rw [hTg z (by simp [hz])]; unfold cutF
      rw [if_neg hne,if_neg]
      intro e
      have:=(show Cy f (a :: A) from pA).step (show z∈a :: A by simp [hz])
      rw [e] at this
      rcases List.mem_cons.1 this with e | e
      · exact hab e.symm
      · exact hbA e
    have gB : ∀ z∈B,f z≠b→g z=f z:=by
      intro z hz hne
      rw [hTg z (by simp [hz])]; unfold cutF
      rw [if_neg,if_neg hne]
      intro e
      have:=(show Cy f (b :: B) from pB).step (show z∈b :: B by simp [hz])
      rw [e] at this
      rcases List.mem_cons.1 this with e | e
      · exact hab e
      · exact haT.2.1 e
    have cAB : ∀ c∈neL (A++B),Cy g c:=by
      intro c hc
      cases A with
      | nil => cases B with
        | nil => cases hc
        | cons x r =>
          have : c=x :: r:=by simpa [neL] using hc
          subst this
          obtain ⟨e1,e2⟩:=pB
          refine Pth.change e2 (fun hm => hbT.2.1 (by simp [hm])) (fun z hz hne => gB z hz hne) (fun z hz he => ?_)
          rw [hTg z (by simp only [List.mem_append]; exact .inr (.inl hz))]; unfold cutF
          rw [if_neg (by rw [he]; exact fun e => hab e.symm),if_pos he,if_pos (show f a=a from pA),e1]
      | cons x r =>
        obtain ⟨e1,e2⟩:=pA
        have hax : f a≠a:=by rw [e1]; rintro rfl; exact haT.1 (by simp)
        cases B with
        | nil =>
          have : c=x :: r:=by simpa [neL] using hc
          subst this
          refine Pth.change e2 (fun hm => haT.1 (by simp [hm])) (fun z hz hne => gA z hz hne) (fun z hz he => ?_)
          rw [hTg z (by simp only [List.mem_append]; exact .inl hz)]; unfold cutF
          rw [if_pos he,if_pos (show f b=b from pB),e1]
        | cons y s =>
          have : c=x :: (r++y :: s):=by simpa [neL] using hc
          subst this
          obtain ⟨e3,e4⟩:=pB
          have hby : f b≠b:=by rw [e3]; rintro rfl; exact hbT.2.1 (by simp)
          refine Pth.app.2 ⟨?_,?_⟩
          · refine Pth.change e2 (fun hm => haT.1 (by simp [hm])) (fun z hz hne => gA z hz hne) (fun z hz he => ?_)
            rw [hTg z (by simp only [List.mem_append]; exact .inl hz)]; unfold cutF
            rw [if_pos he,if_neg hby,e3]
          · refine Pth.change e4 (fun hm => hbT.2.1 (by simp [hm])) (fun z hz hne => gB z hz hne) (fun z hz he => ?_)
            rw [hTg z (by simp only [List.mem_append]; exact .inr (.inl hz))]; unfold cutF
            rw [if_neg (by rw [he]; exact fun e => hab e.symm),if_pos he,if_neg hax,e1]
    have rstep : ∀ z∈rest'.flatten,f z∈rest'.flatten:=fun z hz => by
      obtain ⟨d,hd,hzd⟩:=List.mem_flatten.1 hz
      exact List.mem_flatten.2 ⟨d,hd,(h2.cy d (by simp [hd])).step hzd⟩
    have inA : ∀ u∈D',f u=a→u∈A:=fun u hu e => by
      have hT':=(hm u).2 ((hD u).1 hu)
      rcases List.mem_append.1 hT' with h | h
      · exact h
      · exfalso
        rcases List.mem_append.1 h with h | h
        · have := (show Cy f (b :: B) from pB).step (show u ∈ b :: B by simp [h])
          rw [e] at this
          rcases List.mem_cons.1 this with e' | e'
          · exact hab e'
          · exact haT.2.1 e'
        · have := rstep u h
          rw [e] at this
          exact haT.2.2 this
    have inB : ∀ u∈D',f u=b→u∈B:=fun u hu e => by
      have hT':=(hm u).2 ((hD u).1 hu)
      rcases List.mem_append.1 hT' with h | h
      · exfalso
        have:=(show Cy f (a :: A) from pA).step (show u∈a :: A by simp [h])
        rw [e] at this
        rcases List.mem_cons.1 this with e' | e'
        · exact hab e'.symm
        · exact hbT.1 e'
      · rcases List.mem_append.1 h with h | h
        · exact h
        · have := rstep u h
          rw [e] at this
          exact absurd this hbT.2.2
    refine ⟨neL (A++B)++rest',⟨fun c hc => ?_,?_,fun y => ?_⟩,.inr ⟨hnot,?_,?_⟩⟩
    · rcases List.mem_append.1 hc with hc | hc
      · exact cAB c hc
      · have hin : ∀ y ∈ c, y ∈ rest'.flatten := fun y hy => List.mem_flatten.2 ⟨c, hc, hy⟩
        exact (h2.cy c (by simp [hc])).cutCongr (fun hm => haT.2.2 (hin _ hm)) (fun hm => hbT.2.2 (hin _ hm)) fun y hy => hTg y (by simp [hin y hy])
    · simpa [neL_flat] using hT
    · rw [hD,← hm y]; simp [neL_flat]
    · rw [hlen, hl2]
      have k1 : (f a=a)↔A=[]:=by
        constructor
        · intro e
          cases A with
          | nil => rfl
          | cons x r => exact absurd (show a∈x :: r by have:=pA.1; rw [e] at this; rw [this]; simp) haT.1
        · rintro rfl; exact pA
      have k2 : (f b=b)↔B=[]:=by
        constructor
        · intro e
          cases B with
          | nil => rfl
          | cons x r => exact absurd (show b∈x :: r by have:=pB.1; rw [e] at this; rw [this]; simp) hbT.2.1
        · rintro rfl; exact pB
      simp only [k1,k2]
      cases A<;>cases B<;>simp [neL]<;>omega
    · intro u hu w hw eu ew
      have huA:=inA u hu eu
      have hwB:=inB w hw ew
      refine ⟨A++B,?_,by simp [huA],by simp [hwB]⟩
      cases A with
      | nil => cases huA
      | cons x r => simp [neL]
/-! ### orbits -/
def it {α : Type} (f : α→α) : Nat→α→α
  | 0,x => x
  | n+1,x => f (it f n x)
theorem it_add {α : Type} (f : α→α) (m : Nat) (x : α) : ∀ n : Nat,it f (m+n) x=it f n (it f m x)
  | 0 => rfl
  | n+1 => by show f (it f (m+n) x)=f (it f n (it f m x)); rw [it_add f m x n]
theorem it_mem {α : Type} {f : α→α} {D : List α} (hf : ∀ x∈D,f x∈D) {x : α} (hx : x∈D) : ∀ n,it f n x∈D
  | 0 => hx
  | n+1 => hf _ (it_mem hf hx n)
theorem nodup_sub {α : Type} [DecidableEq α] : ∀ {l D : List α},l.Nodup→(∀ x∈l,x∈D)→l.length≤D.length
  | [],D,_,_ => Nat.zero_le _
  | a :: l, D, h, hs => by
    rw [List.nodup_cons] at h
    have ha:=hs a (by simp)
    have:=nodup_sub (l:=l) (D:=D.erase a) h.2 (fun x hx => (List.mem_erase_of_ne (fun e : x=a => h.1 (by rw [← e]; exact hx))).2 (hs x (by simp [hx])))
    rw [List.length_erase_of_mem ha] at this
    have:=List.length_pos_of_mem ha
    simp; omega
structure OneOne {α : Type} (f : α→α) (D : List α) : Prop where
  mem : ∀ x∈D,f x∈D
  inj : ∀ x∈D,∀ y∈D,f x=f y→x=y
theorem OneOne.back {α : Type} {f : α→α} {D : List α} (h : OneOne f D) {x y : α} (hx : x∈D) (hy : y∈D) : ∀ {n : Nat},it f n x=it f n y→x=y
  | 0,e => e
  | n+1,e => h.back hx hy (h.inj _ (it_mem h.mem hx n) _ (it_mem h.mem hy n) e)
theorem OneOne.comes {α : Type} [DecidableEq α] {f : α→α} {D : List α} (h : OneOne f D) {x : α} (hx : x∈D) : ∃ k,k < D.length∧it f (k+1) x=x:=by
  by_cases hn : ∃ i j,i < j∧j≤D.length∧it f i x=it f j x
  · obtain ⟨i, j, h1, h2, e⟩ := hn
    refine ⟨j - i - 1,by omega,?_⟩
    rw [show j=(j - i - 1+1)+i by omega,it_add] at e
    exact (h.back hx (it_mem h.mem hx _) e).symm
  · have hnd : ((List.range (D.length+1)).map fun i => it f i x).Nodup:=by
      rw [List.Nodup,List.pairwise_iff_getElem]
      intro i j hi hj hij
      simp only [List.length_map,List.length_range] at hi hj
      simp only [List.getElem_map,List.getElem_range]
      exact fun e => hn ⟨i,j,hij,by omega,e⟩
    have:=nodup_sub hnd (D:=D) (fun y hy => by
      obtain ⟨i,_,rfl⟩:=List.mem_map.1 hy
      exact it_mem h.mem hx i)
    simp at this
    omega
def per {α : Type} [DecidableEq α] (f : α→α) (n : Nat) (x : α) : Nat:=(List.range n).findIdx fun k => decide (it f (k+1) x=x)
def orb {α : Type} [DecidableEq α] (f : α→α) (n : Nat) (x : α) : List α:=(List.range (per f n x+1)).map fun i => it f i x
theorem per_not {α : Type} [DecidableEq α] {f : α→α} {n : Nat} {x : α} {i : Nat} (h : i < per f n x) : it f (i+1) x≠x:=by
  have hi : i < n:=by
    have : per f n x≤(List.range n).length:=List.findIdx_le_length
    rw [List.length_range] at this; omega
  have:=findIdx_not (l:=List.range n) h (by rw [List.length_range]; exact hi)
  simpa using this
theorem OneOne.per_lt {α : Type} [DecidableEq α] {f : α→α} {D : List α} (h : OneOne f D) {x : α} (hx : x∈D) {n : Nat} (hn : D.length≤n) : per f n x < D.length∧it f (per f n x+1) x=x:=by
  obtain ⟨k,hk,e⟩:=h.comes hx
  have hle : per f n x≤k:=by
    rcases Nat.lt_or_ge k (per f n x) with hlt | hge
    · exact absurd e (per_not hlt)
    · exact hge
  refine ⟨by omega,?_⟩
  rcases findIdx_cases (fun k => decide (it f (k+1) x=x)) (List.range n) with e0 | ⟨hlt,hp⟩
  · exfalso
    have : per f n x=n:=by unfold per; rw [e0,List.length_range]
    omega
  · simp only [List.getElem_range, decide_eq_true_eq] at hp
    exact hp
theorem orb_len {α : Type} [DecidableEq α] (f : α→α) (n : Nat) (x : α) : (orb f n x).length=per f n x+1:=by unfold orb; simp
theorem orb_get {α : Type} [DecidableEq α] (f : α→α) (n : Nat) (x : α) {i : Nat} (h : i < (orb f n x).length) : (orb f n x)[i]=it f i x:=by
  have e : (orb f n x)[i]?=some (it f i x):=by
    rw [orb_len] at h
    unfold orb
    rw [List.getElem?_map,List.getElem?_range h]; rfl
  exact (List.getElem?_eq_some_iff.1 e).2
theorem pth_it {α : Type} (f : α→α) (x : α) : ∀ k,Pth f x ((List.range k).map fun i => it f (i+1) x) (it f (k+1) x)
  | 0 => rfl
  | k + 1 => by
    rw [List.range_succ,List.map_append]
    exact Pth.app.2 ⟨pth_it f x k,rfl⟩
theorem OneOne.orb_cy {α : Type} [DecidableEq α] {f : α→α} {D : List α} (h : OneOne f D) {x : α} (hx : x∈D) {n : Nat} (hn : D.length≤n) : Cy f (orb f n x):=by
  have e : orb f n x=x :: (List.range (per f n x)).map fun i => it f (i+1) x:=by
    unfold orb
    rw [List.range_succ_eq_map,List.map_cons,List.map_map]; rfl
  rw [e]
  have:=pth_it f x (per f n x)
  rw [(h.per_lt hx hn).2] at this
  exact this
theorem OneOne.orb_nd {α : Type} [DecidableEq α] {f : α→α} {D : List α} (h : OneOne f D) {x : α} (hx : x∈D) (n : Nat) : (orb f n x).Nodup:=by
  rw [List.Nodup,List.pairwise_iff_getElem]
  intro i j hi hj hij e
  rw [orb_get,orb_get] at e
  rw [orb_len] at hj
  rw [show j=(j - i - 1+1)+i by omega,it_add] at e
  exact per_not (show j - i - 1 < per f n x by omega) (h.back hx (it_mem h.mem hx _) e).symm
theorem orb_self {α : Type} [DecidableEq α] (f : α→α) (n : Nat) (x : α) : x∈orb f n x:=by
  unfold orb; rw [List.mem_map]; exact ⟨0,by simp,rfl⟩
theorem OneOne.orb_in {α : Type} [DecidableEq α] {f : α→α} {D : List α} (h : OneOne f D) {x : α} (hx : x∈D) (n : Nat) : ∀ y∈orb f n x,y∈D:=by
  intro y hy
  unfold orb at hy
  obtain ⟨i,_,rfl⟩:=List.mem_map.1 hy
  exact it_mem h.mem hx i
def cycF {α : Type} [DecidableEq α] (f : α→α) (n : Nat) : List α→List α→List (List α)
  | [],_ => []
  | x :: xs,told => if x∈told then cycF f n xs told else orb f n x :: cycF f n xs (told++orb f n x)
theorem OneOne.cycF {α : Type} [DecidableEq α] {f : α→α} {D : List α} (h : OneOne f D) {n : Nat} (hn : D.length≤n) : ∀ (xs told : List α),(∀ x∈xs,x∈D)→(∀ y∈told,f y∈told)→told.Nodup →
    (∀ c∈cycF f n xs told,Cy f c)∧(told++(cycF f n xs told).flatten).Nodup∧(∀ y∈(cycF f n xs told).flatten,y∈D)∧∀ y∈xs,y∈told++(cycF f n xs told).flatten
  | [],told,_,_,ht => by simp [Sx.cycF,ht]
  | x :: xs, told, hx, hc, ht => by
    have hxD:=hx x (by simp)
    unfold Sx.cycF
    split
    · rename_i hxt
      obtain ⟨a,b,c,d⟩:=OneOne.cycF h hn xs told (fun y hy => hx y (by simp [hy])) hc ht
      refine ⟨a,b,c,fun y hy => ?_⟩
      rcases List.mem_cons.1 hy with rfl | hy
      · exact List.mem_append.2 (.inl hxt)
      · exact d y hy
    · rename_i hxt
      have hcy:=h.orb_cy hxD hn
      have hdis : ∀ y∈told,y∉orb f n x:=fun y hy hyo => hxt (hcy.within (S:=fun z => z∈told) hc hyo hy x (orb_self f n x))
      obtain ⟨a,b,c,d⟩:=OneOne.cycF h hn xs (told++orb f n x) (fun y hy => hx y (by simp [hy])) (fun y hy => by
        rcases List.mem_append.1 hy with hy | hy
        · exact List.mem_append.2 (.inl (hc y hy))
        · exact List.mem_append.2 (.inr (hcy.step hy))) (by
        rw [List.nodup_append]
        exact ⟨ht,h.orb_nd hxD n,fun y hy z hz e => hdis y hy (e ▸ hz)⟩)
      refine ⟨fun e he => ?_,by rw [List.flatten_cons,← List.append_assoc]; exact b,fun y hy => ?_,fun y hy => ?_⟩
      · rcases List.mem_cons.1 he with rfl | he
        · exact hcy
        · exact a e he
      · rw [List.flatten_cons] at hy
        rcases List.mem_append.1 hy with hy | hy
        · exact h.orb_in hxD n y hy
        · exact c y hy
      · rw [List.flatten_cons, ← List.append_assoc]
        rcases List.mem_cons.1 hy with rfl | hy
        · exact List.mem_append.2 (.inl (List.mem_append.2 (.inr (orb_self f n _))))
        · exact d y hy
theorem OneOne.dec {α : Type} [DecidableEq α] {f : α→α} {D : List α} (h : OneOne f D) {n : Nat} (hn : D.length≤n) : Dec f D (Sx.cycF f n D []):=by
  obtain ⟨a,b,c,d⟩:=h.cycF hn D [] (fun _ h => h) (fun y hy => by cases hy) (by simp)
  exact ⟨a,b,fun x => ⟨c x,d x⟩⟩
end Go.Proofs.Ytcecojdeljbjoaa.Sx
