/- What the functions of names and darts come to. Names as bytes: laid down,and taken. Numbers and texts as bytes,in plain Lean: laid down,taken,and back. Numbers and texts as bytes: what the functions come to. What the functions of rings come to. Vertices,edges,darts that are gone: what is found there. What the reference's functions of rings come to. What is wrong with a diagram. Maps from darts,as sets. Rings in plain Lean: what the program's map says is what the reference counts. What is wrong with a diagram: the program's answer. What is wrong with a diagram: the reference's answer. Diagrams that are well formed,in plain words. Rings in plain Lean: rotations,and what does not hang on them. How often darts stand in rings; diagrams with the same darts. Cycles of a function on a finite row,in plain Lean: orbits,how many cycles there are,and how that changes as two points are taken out. Darts round vertices and round faces,in plain Lean: how many faces there are,and what an edge more or less does to them. Faces,parts and the genus of diagrams,in plain Lean: what an edge more or less does to them; bounds. -/
import Derived.Test.YtcecojdeljbjoaaSxG6
import Derived.Test.YtcecojdeljbjoaaSxG7
set_option maxRecDepth 100000
set_option linter.unusedSimpArgs false
set_option linter.unusedVariables false
namespace Go.Proofs.Ytcecojdeljbjoaa.Sx
open Go
theorem c_ident_May (a b : Int) : call F 59 [.agg [.int .i64 a,.int .i64 b]]=some (.bool (mayI ⟨a,b⟩)):=by
  rw [call_code F (show F 59=some (.code f59) from rfl)]
  simp only [f59,go_sem,seval]
  iterate 3 all_goals (try (split<;>(rename_i h; (try simp only [Bool.not_eq_true] at h); simp only [*,go_sem,seval])))
  all_goals simp_all [mayI]
  all_goals omega
theorem c_isNaN (a : Int) : call F 92 [.int .i64 a]=some (.bool false):=by
  rw [call_code F (show F 92=some (.code f92) from rfl)]
  simp only [f92,go_sem,seval]
theorem c_Compare (a b : Int) : call F 76 [.int .i64 a,.int .i64 b]=some (.int .i64 (cmpZ a b)):=by
  rw [call_code F (show F 76=some (.code f76) from rfl)]
  simp only [f76,c_isNaN,go_sem,seval]
  iterate 4 all_goals (try (split<;>(rename_i h; (try simp only [Bool.not_eq_true] at h); simp only [*,go_sem,seval])))
  all_goals simp_all [cmpZ]
  all_goals omega
theorem c_Or (a b : Int) : call F 75 [.sl .shared 1 [[.int .i64 a],[.int .i64 b]]]=some (.int .i64 (orZ a b)):=by
  rw [call_code F (show F 75=some (.code f75) from rfl)]
  simp only [f75,go_sem,seval]
  rw [f75_l1_eq]
  simp only [f75_b1,wrap64,go_sem,seval]
  iterate 1 all_goals (try (split<;>(rename_i h; (try simp only [Bool.not_eq_true] at h); simp only [*,f75_b1,wrap64,go_sem,seval])))
  · simp_all [orZ]
  · rw [f75_l1_eq]
    simp only [f75_b1,wrap64,go_sem,seval]
    iterate 1 all_goals (try (split<;>(rename_i h; (try simp only [Bool.not_eq_true] at h); simp only [*,f75_b1,wrap64,go_sem,seval])))
    · simp_all [orZ]
    · rw [f75_l1_eq]
      simp only [f75_b1,wrap64,go_sem,seval]
      simp_all [orZ]
theorem c_ident_Order (a b c d : Int) : call F 60 [.agg [.int .i64 a,.int .i64 b],.agg [.int .i64 c,.int .i64 d]]=some (.int .i64 (ordI ⟨a,b⟩ ⟨c,d⟩)):=by
  rw [← ordI_or]
  rw [call_code F (show F 60=some (.code f60) from rfl)]
  simp only [f60,c_Compare,c_Or,go_sem,seval]
  iterate 3 all_goals (try (split<;>(rename_i h; (try simp only [Bool.not_eq_true] at h); simp only [*,c_Compare,c_Or,go_sem,seval])))
  all_goals simp_all
theorem c_ident_OrderDart (a b e c d f : Int) : call F 79 [.agg [.int .i64 a,.int .i64 b,.int .i64 e],.agg [.int .i64 c,.int .i64 d,.int .i64 f]]=some (.int .i64 (ordD ⟨⟨a,b⟩,e⟩ ⟨⟨c,d⟩,f⟩)):=by
  rw [← ordD_or]
  rw [call_code F (show F 79=some (.code f79) from rfl)]
  simp only [f79,c_Compare,c_Or,c_ident_Order,go_sem,seval]
end Go.Proofs.Ytcecojdeljbjoaa.Sx
namespace Go.Proofs.Ytcecojdeljbjoaa.Sx
open Go
theorem shor_eq {x c : Int} (h0 : 0≤x) (h1 : x≤65535) (h2 : 0≤c) (h3 : c≤255) : IntKind.i64.wrap (orB .i64 (IntKind.i64.wrap (x * 2 ^ min 8 64)) c)=256 * x+c:=by
  show IntKind.i64.wrap (BitVec.ofInt 64 (IntKind.i64.wrap (x * 2 ^ min 8 64)) ||| BitVec.ofInt 64 c).toNat=256 * x+c
  rw [show (min 8 64 : Nat)=8 from rfl,show (2 : Int) ^ 8=256 from rfl]
  rw [wrap64 (n:=x * 256) (by omega) (by omega)]
  have e : ((BitVec.ofInt 64 (x * 256) ||| BitVec.ofInt 64 c).toNat : Int)=256 * x+c:=by
    rw [BitVec.toNat_or,BitVec.toNat_ofInt,BitVec.toNat_ofInt]
    have u1 : (x * 256 % ((2 ^ 64 : Nat) : Int)).toNat=x.toNat <<< 8:=by rw [Nat.shiftLeft_eq]; omega
    have u2 : (c % ((2 ^ 64 : Nat) : Int)).toNat=c.toNat:=by omega
    rw [u1,u2,← Nat.shiftLeft_add_eq_or_of_lt (by omega),Nat.shiftLeft_eq]
    omega
  rw [e,wrap64 (by omega) (by omega)]
def bN (b : UInt8) : Int:=b.toNat
theorem bN_lt (b : UInt8) : 0≤bN b∧bN b≤255:=by have:=b.toNat_lt; unfold bN; omega
theorem bN_def (b : UInt8) : (b.toNat : Int)=bN b:=rfl
theorem wbN (b : UInt8) : IntKind.i64.wrap (bN b)=bN b:=wrap64 (by have:=bN_lt b; omega) (by have:=bN_lt b; omega)
theorem bN_u8 {n : Int} (h0 : 0≤n) (h1 : n≤255) : bN (u8 n)=n:=by have:=u8_toNat n; unfold bN; omega
def n3 (n1 n2 n3 : UInt8) : Int:=65536 * bN n1+256 * bN n2+bN n3
def putI (x : ID) : List UInt8:=[u8 x.s,u8 (x.n.fdiv 65536),u8 (x.n.fdiv 256),u8 x.n]
theorem putI_len (x : ID) : (putI x).length=4:=rfl
def takeI (b : List UInt8) : ID × List UInt8 × Bool:=match b with
  | a :: b :: c :: d :: r => if mayI ⟨bN a,n3 b c d⟩=true then (⟨bN a,n3 b c d⟩,r,true) else (ID0,a :: b :: c :: d :: r,false)
  | b => (ID0,b,false)
def takeIT (p : ID × List UInt8 × Bool) : TV:=.tup [.agg [.int .i64 p.1.s,.int .i64 p.1.n],.sl .shared 1 (rowsBy cByte p.2.1),.bool p.2.2]
theorem takeI_short {b : List UInt8} (h : b.length < 4) : takeI b=(ID0,b,false):=by
  match b,h with
  | [],_ => rfl
  | [_],_ => rfl
  | [_,_],_ => rfl
  | [_,_,_],_ => rfl
  | _ :: _ :: _ :: _ :: _,h => simp at h; omega
theorem takeI_put {x : ID} (h : mayI x=true) (r : List UInt8) : takeI (putI x++r)=(x,r,true):=by
  have h':=h
  simp only [mayI,decide_eq_true_eq] at h'
  have e1 : bN (u8 x.s)=x.s:=bN_u8 (by omega) (by omega)
  have e2 : n3 (u8 (x.n.fdiv 65536)) (u8 (x.n.fdiv 256)) (u8 x.n)=x.n:=by
    have q1:=u8_toNat (x.n.fdiv 65536)
    have q2:=u8_toNat (x.n.fdiv 256)
    have q3:=u8_toNat x.n
    rw [Int.fdiv_eq_ediv_of_nonneg _ (by omega)] at q1 q2
    unfold n3 bN
    rw [Int.fdiv_eq_ediv_of_nonneg _ (by omega),Int.fdiv_eq_ediv_of_nonneg _ (by omega)]
    omega
  simp only [putI,List.cons_append,List.nil_append,takeI,e1,e2]
  rw [if_pos (by exact h)]
theorem short_lt {n k : Nat} (h : n < k) : decide ((n : Int) < (k : Int))=true:=by simp; omega
theorem i_ident_Put (l : List UInt8) (hl : l.length≤100000) (fl : Fl) (x : ID) : call F 37 [.sl fl 1 (rowsBy cByte l),.agg [.int .i64 x.s,.int .i64 x.n]]=some (.sl (.own 5) 1 (rowsBy cByte (l++putI x))):=by
  have e : rowsBy cByte l++[[.int .u8 (IntKind.u8.wrap x.s)],[.int .u8 (IntKind.u8.wrap (x.n.fdiv (2 ^ (min 16 64))))],[.int .u8 (IntKind.u8.wrap (x.n.fdiv (2 ^ (min 8 64))))],[.int .u8 (IntKind.u8.wrap x.n)]]=rowsBy cByte (l++putI x):=by
    rw [← rowsBy_append]
    simp only [putI,rowsBy,u8_row]; rfl
  rw [← e]
  cases hR : rowsBy cByte l with
  | nil =>
    rw [call_code F (show F 37=some (.code f37) from rfl)]
    simp only [f37,Int.le_refl,List.take_length,Nat.sub_zero,go_sem,seval]
  | cons r R =>
    have hRl : R.length+1=l.length:=by rw [← rowsBy_length cByte l,hR]; rfl
    have h1 : (R.length+1+4) * 1≤140737488355328:=by omega
    rw [call_code F (show F 37=some (.code f37) from rfl)]
    simp only [f37,Int.le_refl,List.take_length,Nat.sub_zero,h1,go_sem,seval]
    simp [take_all]
theorem i_ident_Take (b : List UInt8) : call F 40 [.sl .shared 1 (rowsBy cByte b)]=some (takeIT (takeI b)):=by
  by_cases hs : b.length < 4
  · have h0 := short_lt hs
    rw [takeI_short hs]
    rw [call_code F (show F 40=some (.code f40) from rfl)]
    simp only [f40,rowsBy_length,h0,takeIT,ID0,show ((4 : Nat) : Int)=4 from rfl,go_sem,seval]
    simp only [show ((4 : Nat) : Int)=4 from rfl,go_sem,seval] at h0
    simp only [f40,rowsBy_length,h0,takeIT,ID0,go_sem,seval]
  · match b, hs with
    | [],h => simp at h
    | [_],h => simp at h
    | [_,_],h => simp at h
    | [_,_,_],h => simp at h
    | n0 :: n1 :: n2 :: n3' :: R,hs =>
    have h1 : decide (((R.length+1+1+1+1 : Nat) : Int) < 4)=false:=by rw [decide_eq_false_iff_not]; omega
    have h2 : (4 : Int)≤((R.length+1+1+1+1 : Nat) : Int):=by omega
    have h3 : R.length+1+1+1+1 - 4=R.length:=by omega
    have h4 : (rowsBy cByte R).take R.length=rowsBy cByte R:=by rw [rowsBy_take,List.take_length]
    have q1:=bN_lt n1
    have q2:=bN_lt n2
    have q3:=bN_lt n3'
    have e1 : IntKind.i64.wrap (orB .i64 (IntKind.i64.wrap (0 * 2 ^ min 8 64)) (bN n1))=bN n1:=by rw [shor_eq (x:=0) (c:=bN n1) (by omega) (by omega) (by omega) (by omega)]; omega
    have e2:=shor_eq (x:=bN n1) (c:=bN n2) (by omega) (by omega) (by omega) (by omega)
    have e3 : IntKind.i64.wrap (orB .i64 (IntKind.i64.wrap ((256 * bN n1+bN n2) * 2 ^ min 8 64)) (bN n3'))=n3 n1 n2 n3':=by rw [shor_eq (by omega) (by omega) (by omega) (by omega)]; unfold n3; omega
    rw [call_code F (show F 40=some (.code f40) from rfl)]
    simp only [f40,rowsBy,cByte,rowsBy_length,Int.le_refl,List.take_length,Nat.sub_zero,h1,h2,h3,h4,bN_def,go_sem,seval]
    rw [f40_l1_eq]
    simp only [f40_b1,wrap64,wbN,e1,go_sem,seval]
    rw [f40_l1_eq]
    simp only [f40_b1,wrap64,wbN,e2,go_sem,seval]
    rw [f40_l1_eq]
    simp only [f40_b1,wrap64,wbN,e3,go_sem,seval]
    rw [f40_l1_eq]
    simp only [f40_b1,wrap64,c_ident_May,wbN,go_sem,seval]
    clear e1 e2 e3
    iterate 1 all_goals (try (split<;>(rename_i h; (try simp only [Bool.not_eq_true] at h); simp only [*,rowsBy,cByte,rowsBy_length,Int.le_refl,Nat.sub_zero,go_sem,seval])))
    all_goals simp_all [takeI,takeIT,ID0,rowsBy,cByte,bN_def]
end Go.Proofs.Ytcecojdeljbjoaa.Sx
namespace Go.Proofs.Ytcecojdeljbjoaa.Sx
open Go
theorem wrapU {n : Int} (h1 : 0≤n) (h2 : n < 18446744073709551616) : IntKind.u64.wrap n=n:=by
  simp only [IntKind.wrap,IntKind.bits,IntKind.signed]
  simp
  omega
theorem wrapU_mod (n : Int) : IntKind.u64.wrap n=n % 18446744073709551616:=by
  simp only [IntKind.wrap,IntKind.bits,IntKind.signed]
  simp
theorem wrapI_mod (n : Int) : IntKind.i64.wrap n=(n+9223372036854775808) % 18446744073709551616 - 9223372036854775808:=by
  simp only [IntKind.wrap,IntKind.bits,IntKind.signed]
  simp
  try omega
def byteK (w : Int) (k : Nat) : UInt8:=u8 (w / 2 ^ (8 * k))
def numB (x : Int) : List UInt8:=[byteK (x % 18446744073709551616) 7,byteK (x % 18446744073709551616) 6,byteK (x % 18446744073709551616) 5,byteK (x % 18446744073709551616) 4,byteK (x % 18446744073709551616) 3,byteK (x % 18446744073709551616) 2,byteK (x % 18446744073709551616) 1,byteK (x % 18446744073709551616) 0]
theorem numB_len (x : Int) : (numB x).length=8:=rfl
def valB (l : List UInt8) : Int:=l.foldl (fun x c => 256 * x+bN c) 0
theorem valB_snoc (l : List UInt8) (c : UInt8) : valB (l++[c])=256 * valB l+bN c:=by unfold valB; rw [List.foldl_append]; rfl
theorem valB_bound : ∀ (n : Nat) (l : List UInt8),l.length=n→0≤valB l∧valB l < 256 ^ n
  | 0, l, h => by
    have : l=[]:=List.length_eq_zero_iff.1 h
    subst this; exact ⟨Int.le_refl _,by decide⟩
  | n + 1, l, h => by
    have hne : l≠[]:=fun e => by rw [e] at h; cases h
    obtain ⟨m,c,rfl⟩ : ∃ m c,l=m++[c]:=⟨_,_,(List.dropLast_concat_getLast hne).symm⟩
    have hm : m.length=n:=by rw [List.length_append] at h; simpa using h
    obtain ⟨h1,h2⟩:=valB_bound n m hm
    have h3:=bN_lt c
    rw [valB_snoc,Int.pow_succ]
    omega
def takeN (b : List UInt8) : Int × List UInt8 × Bool:=if b.length < 8 then (0,b,false) else (IntKind.i64.wrap (valB (b.take 8)),b.drop 8,true)
theorem valB_num (w : Int) (h0 : 0≤w) (h1 : w < 18446744073709551616) : valB [byteK w 7,byteK w 6,byteK w 5,byteK w 4,byteK w 3,byteK w 2,byteK w 1,byteK w 0]=w:=by
  have e : ∀ k,bN (byteK w k)=w / 2 ^ (8 * k) % 256:=fun k => by
    have:=u8_toNat (w / 2 ^ (8 * k))
    unfold bN byteK
    exact this
  simp only [valB,List.foldl_cons,List.foldl_nil,e]
  simp only [Nat.reduceMul,show (2 : Int) ^ 0=1 from rfl,show (2 : Int) ^ 8=256 from rfl,show (2 : Int) ^ 16=65536 from rfl,show (2 : Int) ^ 24=16777216 from rfl,show (2 : Int) ^ 32=4294967296 from rfl,show (2 : Int) ^ 40=1099511627776 from rfl,show (2 : Int) ^ 48=281474976710656 from rfl,show (2 : Int) ^ 56=72057594037927936 from rfl]
  omega
theorem takeN_num {x : Int} (h1 : -9223372036854775808≤x) (h2 : x≤9223372036854775807) (r : List UInt8) : takeN (numB x++r)=(x,r,true):=by
  unfold takeN
  rw [if_neg (by rw [List.length_append,numB_len]; omega)]
  rw [List.take_left' (numB_len x),List.drop_left' (numB_len x)]
  unfold numB
  rw [valB_num _ (by omega) (by omega),wrapI_mod]
  simp only [Prod.mk.injEq,and_true]
  omega
/-! ### texts -/
def textB (s : ByteArray) : List UInt8:=u8 s.size :: s.data.toList
def takeX (b : List UInt8) : ByteArray × List UInt8 × Bool:=match b with
  | [] => (⟨#[]⟩,[],false)
  | c :: r => if r.length < c.toNat then (⟨#[]⟩,c :: r,false) else (⟨(r.take c.toNat).toArray⟩,r.drop c.toNat,true)
theorem textB_len (s : ByteArray) : (textB s).length=1+s.size:=by
  unfold textB
  rw [List.length_cons,Array.length_toList]
  show s.data.size+1=1+s.data.size
  omega
theorem u8_nat {n : Nat} (h : n≤255) : (u8 (n : Int)).toNat=n:=by
  have:=u8_toNat (n : Int)
  omega
theorem takeX_text {s : ByteArray} (h : s.size≤255) (r : List UInt8) : takeX (textB s++r)=(s,r,true):=by
  have hl : s.data.toList.length=s.size:=by rw [Array.length_toList]; rfl
  show (if (s.data.toList++r).length < (u8 s.size).toNat then _ else _)=_
  rw [u8_nat h,if_neg (by rw [List.length_append]; omega),show s.data.toList.append r=s.data.toList++r from rfl,List.take_left' hl,List.drop_left' hl]
end Go.Proofs.Ytcecojdeljbjoaa.Sx
namespace Go.Proofs.Ytcecojdeljbjoaa.Sx
open Go
def takeNT (p : Int × List UInt8 × Bool) : TV:=.tup [.int .i64 p.1,.sl .shared 1 (rowsBy cByte p.2.1),.bool p.2.2]
def takeXT (p : ByteArray × List UInt8 × Bool) : TV:=.tup [.str p.1,.sl .shared 1 (rowsBy cByte p.2.1),.bool p.2.2]
theorem wubN (b : UInt8) : IntKind.u64.wrap (bN b)=bN b:=wrapU (by have:=bN_lt b; omega) (by have:=bN_lt b; omega)
theorem valB_lt {l : List UInt8} (h : l.length≤7) : 0≤valB l∧valB l < 72057594037927936:=by
  obtain ⟨h1,h2⟩:=valB_bound l.length l rfl
  refine ⟨h1,Int.lt_of_lt_of_le h2 ?_⟩
  have key : ∀ n : Nat,n≤7→(256 : Int) ^ n≤72057594037927936:=by
    intro n hn
    match n,hn with
    | 0,_ => decide
    | 1,_ => decide
    | 2,_ => decide
    | 3,_ => decide
    | 4,_ => decide
    | 5,_ => decide
    | 6,_ => decide
    | 7,_ => decide
  exact key _ h
theorem shU (l : List UInt8) (c : UInt8) (h : l.length≤7) : IntKind.u64.wrap (orB .u64 (IntKind.u64.wrap (valB l * 2 ^ min 8 64)) (bN c))=valB (l++[c]):=by
  obtain ⟨h1,h2⟩:=valB_lt h
  have h3:=bN_lt c
  rw [valB_snoc]
  show IntKind.u64.wrap (BitVec.ofInt 64 (IntKind.u64.wrap (valB l * 2 ^ min 8 64)) ||| BitVec.ofInt 64 (bN c)).toNat=256 * valB l+bN c
  rw [show (min 8 64 : Nat)=8 from rfl,show (2 : Int) ^ 8=256 from rfl]
  rw [wrapU (n:=valB l * 256) (by omega) (by omega)]
  have e : ((BitVec.ofInt 64 (valB l * 256) ||| BitVec.ofInt 64 (bN c)).toNat : Int)=256 * valB l+bN c:=by
    rw [BitVec.toNat_or,BitVec.toNat_ofInt,BitVec.toNat_ofInt]
    have u1 : (valB l * 256 % ((2 ^ 64 : Nat) : Int)).toNat=(valB l).toNat <<< 8:=by rw [Nat.shiftLeft_eq]; omega
    have u2 : (bN c % ((2 ^ 64 : Nat) : Int)).toNat=(bN c).toNat:=by omega
    rw [u1,u2,← Nat.shiftLeft_add_eq_or_of_lt (by omega),Nat.shiftLeft_eq]
    omega
  rw [e,wrapU (by omega) (by omega)]
theorem takeN_short {b : List UInt8} (h : b.length < 8) : takeN b=(0,b,false):=by unfold takeN; rw [if_pos h]
theorem takeN_long (a b c d e f g h : UInt8) (R : List UInt8) : takeN (a :: b :: c :: d :: e :: f :: g :: h :: R)=(IntKind.i64.wrap (valB [a,b,c,d,e,f,g,h]),R,true):=by
  unfold takeN
  rw [if_neg (by simp only [List.length_cons]; omega)]
  rfl
theorem i_pack_TakeNum (b : List UInt8) : call F 13 [.sl .shared 1 (rowsBy cByte b)]=some (takeNT (takeN b)):=by
  by_cases hs : b.length < 8
  · have h0 := short_lt hs
    simp only [show ((8 : Nat) : Int)=8 from rfl,go_sem,seval] at h0
    rw [takeN_short hs]
    rw [call_code F (show F 13=some (.code f13) from rfl)]
    simp only [f13,rowsBy_length,h0,takeNT,go_sem,seval]
  · match b, hs with
    | [],h => simp at h
    | [_],h => simp at h
    | [_,_],h => simp at h
    | [_,_,_],h => simp at h
    | [_,_,_,_],h => simp at h
    | [_,_,_,_,_],h => simp at h
    | [_,_,_,_,_,_],h => simp at h
    | [_,_,_,_,_,_,_],h => simp at h
    | n0 :: n1 :: n2 :: n3' :: n4 :: n5 :: n6 :: n7 :: R,hs =>
    have h1 : decide (((R.length+1+1+1+1+1+1+1+1 : Nat) : Int) < 8)=false:=by rw [decide_eq_false_iff_not]; omega
    have h2 : (8 : Int)≤((R.length+1+1+1+1+1+1+1+1 : Nat) : Int):=by omega
    have h3 : R.length+1+1+1+1+1+1+1+1 - 8=R.length:=by omega
    have h4 : (rowsBy cByte R).take R.length=rowsBy cByte R:=by rw [rowsBy_take,List.take_length]
    have e0 : IntKind.u64.wrap (orB .u64 (IntKind.u64.wrap (0 * 2 ^ min 8 64)) (bN n0))=valB [n0]:=shU [] n0 (by simp)
    have e1 : IntKind.u64.wrap (orB .u64 (IntKind.u64.wrap (valB [n0] * 2 ^ min 8 64)) (bN n1))=valB [n0,n1]:=shU _ _ (by simp)
    have e2 : IntKind.u64.wrap (orB .u64 (IntKind.u64.wrap (valB [n0,n1] * 2 ^ min 8 64)) (bN n2))=valB [n0,n1,n2]:=shU _ _ (by simp)
    have e3 : IntKind.u64.wrap (orB .u64 (IntKind.u64.wrap (valB [n0,n1,n2] * 2 ^ min 8 64)) (bN n3'))=valB [n0,n1,n2,n3']:=shU _ _ (by simp)
    have e4 : IntKind.u64.wrap (orB .u64 (IntKind.u64.wrap (valB [n0,n1,n2,n3'] * 2 ^ min 8 64)) (bN n4))=valB [n0,n1,n2,n3',n4]:=shU _ _ (by simp)
    have e5 : IntKind.u64.wrap (orB .u64 (IntKind.u64.wrap (valB [n0,n1,n2,n3',n4] * 2 ^ min 8 64)) (bN n5))=valB [n0,n1,n2,n3',n4,n5]:=shU _ _ (by simp)
    have e6 : IntKind.u64.wrap (orB .u64 (IntKind.u64.wrap (valB [n0,n1,n2,n3',n4,n5] * 2 ^ min 8 64)) (bN n6))=valB [n0,n1,n2,n3',n4,n5,n6]:=shU _ _ (by simp)
    have e7 : IntKind.u64.wrap (orB .u64 (IntKind.u64.wrap (valB [n0,n1,n2,n3',n4,n5,n6] * 2 ^ min 8 64)) (bN n7))=valB [n0,n1,n2,n3',n4,n5,n6,n7]:=shU _ _ (by simp)
    rw [takeN_long]
    rw [call_code F (show F 13=some (.code f13) from rfl)]
    simp only [f13,rowsBy,cByte,rowsBy_length,Int.le_refl,List.take_length,Nat.sub_zero,h1,h2,h3,h4,bN_def,go_sem,seval]
    rw [f13_l1_eq]
    simp only [f13_b1,wrap64,wubN,e0,go_sem,seval]
    rw [f13_l1_eq]
    simp only [f13_b1,wrap64,wubN,e1,go_sem,seval]
    rw [f13_l1_eq]
    simp only [f13_b1,wrap64,wubN,e2,go_sem,seval]
    rw [f13_l1_eq]
    simp only [f13_b1,wrap64,wubN,e3,go_sem,seval]
    rw [f13_l1_eq]
    simp only [f13_b1,wrap64,wubN,e4,go_sem,seval]
    rw [f13_l1_eq]
    simp only [f13_b1,wrap64,wubN,e5,go_sem,seval]
    rw [f13_l1_eq]
    simp only [f13_b1,wrap64,wubN,e6,go_sem,seval]
    rw [f13_l1_eq]
    simp only [f13_b1,wrap64,wubN,e7,go_sem,seval]
    rw [f13_l1_eq]
    clear e0 e1 e2 e3 e4 e5 e6 e7
    simp only [f13_b1,rowsBy,cByte,rowsBy_length,Int.le_refl,List.take_length,Nat.sub_zero,h1,h2,h3,h4,bN_def,takeNT,go_sem,seval]
theorem bytesOf_rows (l : List UInt8) : bytesOf (rowsBy cByte l)=some l:=by
  induction l with
  | nil => rfl
  | cons b l ih =>
    simp only [rowsBy,cByte,bytesOf,ih,Option.map_some,Int.toNat_natCast,UInt8.ofNat_toNat]
theorem byteRows_by (l : List UInt8) : byteRows l=rowsBy cByte l:=by
  induction l with
  | nil => rfl
  | cons b l ih => simp only [byteRows,rowsBy,ih,cByte]
def takeC (b : List UInt8) : List UInt8 × List UInt8 × Bool:=match b with
  | [] => ([],[],false)
  | c :: r => if r.length < c.toNat then ([],c :: r,false) else (r.take c.toNat,r.drop c.toNat,true)
def takeCT (p : List UInt8 × List UInt8 × Bool) : TV:=.tup [if p.2.2=true then .sl .shared 1 (rowsBy cByte p.1) else .sl (.own 5) 1 [],.sl .shared 1 (rowsBy cByte p.2.1),.bool p.2.2]
theorem takeX_C (b : List UInt8) : takeX b=(⟨(takeC b).1.toArray⟩,(takeC b).2.1,(takeC b).2.2):=by
  match b with
  | [] => rfl
  | c :: r =>
    simp only [takeX,takeC]
    by_cases h : r.length < c.toNat
    · rw [if_pos h,if_pos h]
    · rw [if_neg h,if_neg h]
theorem takeC_len (b : List UInt8) (h : (takeC b).2.2=false) : (takeC b).1=[]:=by
  unfold takeC at *
  split
  · rfl
  · split
    · rfl
    · simp_all
theorem i_pack_counted (b : List UInt8) (hl : b.length≤100000) : call F 29 [.sl .shared 1 (rowsBy cByte b)]=some (takeCT (takeC b)):=by
  match b,hl with
  | [], _ =>
    rw [call_code F (show F 29=some (.code f29) from rfl)]
    simp only [f29,rowsBy,takeCT,takeC,go_sem,seval]
  | c :: R, hl =>
    have hl' : R.length+1≤100000:=by simpa using hl
    have q:=bN_lt c
    have qn : bN c=(c.toNat : Int):=rfl
    have e1 : IntKind.i64.wrap (((R.length+1 : Nat) : Int) - 1)=(R.length : Int):=by rw [wrap64 (by omega) (by omega)]; omega
    have e2 : IntKind.i64.wrap (1+bN c)=1+bN c:=wrap64 (by omega) (by omega)
    have z0 : ¬ ((R.length+1 : Nat) : Int)=0:=by omega
    by_cases hs : R.length < c.toNat
    · have d1 : decide ((R.length : Int) < bN c) = true := by rw [decide_eq_true_eq]; omega
      have e : takeC (c :: R)=([],c :: R,false):=by simp only [takeC]; rw [if_pos hs]
      rw [e]
      rw [call_code F (show F 29=some (.code f29) from rfl)]
      simp only [f29,rowsBy,cByte,rowsBy_length,bN_def,wbN,e1,d1,decide_eq_false z0,takeCT,go_sem,seval]
    · have d1 : decide ((R.length : Int) < bN c) = false := by rw [decide_eq_false_iff_not]; omega
      have e : takeC (c :: R)=(R.take c.toNat,R.drop c.toNat,true):=by simp only [takeC]; rw [if_neg hs]
      have b1 : (0 : Int)≤1+bN c:=by omega
      have b2 : 1+bN c≤((R.length+1 : Nat) : Int):=by omega
      have b3 : (1+bN c).toNat=c.toNat+1:=by omega
      have b4 : (1 : Int)≤((c.toNat+1 : Nat) : Int):=by omega
      have b5 : (rowsBy cByte R).drop c.toNat=rowsBy cByte (R.drop c.toNat):=rowsBy_drop _ _ _
      have b6 : (rowsBy cByte R).take c.toNat=rowsBy cByte (R.take c.toNat):=rowsBy_take _ _ _
      have b7 : (rowsBy cByte (R.drop c.toNat)).take (R.length+1 - (c.toNat+1))=rowsBy cByte (R.drop c.toNat):=by rw [rowsBy_take,List.take_of_length_le (by rw [List.length_drop]; omega)]
      rw [e]
      rw [call_code F (show F 29=some (.code f29) from rfl)]
      simp only [f29,rowsBy,cByte,rowsBy_length,bN_def,wbN,e1,e2,d1,decide_eq_false z0,takeCT,b1,b2,b3,b4,Int.le_refl,Nat.sub_zero,Nat.add_sub_cancel,List.drop_succ_cons,List.drop_zero,b5,b6,b7,go_sem,seval]
      all_goals simp [b5,b6,b7]
theorem i_pack_TakeText (b : List UInt8) (hl : b.length≤100000) : call F 15 [.sl .shared 1 (rowsBy cByte b)]=some (takeXT (takeX b)):=by
  rw [takeX_C]
  rw [call_code F (show F 15=some (.code f15) from rfl)]
  simp only [f15,i_pack_counted _ hl,takeCT,takeXT,go_sem,seval]
  cases h : (takeC b).2.2 with
  | false =>
    rw [takeC_len b h]
    simp only [h,Bool.false_eq_true,go_sem,seval]
    try rfl
  | true =>
    simp only [h,bytesOf_rows,go_sem,seval]
    try rfl
end Go.Proofs.Ytcecojdeljbjoaa.Sx
namespace Go.Proofs.Ytcecojdeljbjoaa.Sx
open Go
theorem i_Index_Dart (l : List Dart) (x : Dart) (hl : Fits l) : call F 77 [.sl .shared 3 (rowsBy Dart.c l),.agg [.int .i64 x.e.s,.int .i64 x.e.n,.int .i64 x.d]]=some (.int .i64 (idx l x)):=by
  have hl:=hl.le
  have S : ∀ r,E (cs F) 0 f77_b1 (⟨(upd (upd (upd (upd Sx.e0 8 (.v (.int .i64 ((l.idxOf x : Int))))) 7 (.v (.int .i64 ((l.length : Int))))) 3 (.p 3 0)) 0 (.v (.sl .shared 3 (rowsBy Dart.c l)))),(upd Sx.h0 3 (some (.var false [(.v (.int .i64 (x.e.s))),(.v (.int .i64 (x.e.n))),(.v (.int .i64 (x.d)))])))⟩ : St)=some r→r.1≠.norm →
      E (cs F) 0 f77_l1 (⟨(upd (upd (upd (upd Sx.e0 8 (.v (.int .i64 (0)))) 7 (.v (.int .i64 ((l.length : Int))))) 3 (.p 3 0)) 0 (.v (.sl .shared 3 (rowsBy Dart.c l)))),(upd Sx.h0 3 (some (.var false [(.v (.int .i64 (x.e.s))),(.v (.int .i64 (x.e.n))),(.v (.int .i64 (x.d)))])))⟩ : St)=some r:=by
    intro r hf hr
    refine loop_to (b:=f77_b1) (fun i => (⟨(upd (upd (upd (upd Sx.e0 8 (.v (.int .i64 ((i : Int))))) 7 (.v (.int .i64 ((l.length : Int))))) 3 (.p 3 0)) 0 (.v (.sl .shared 3 (rowsBy Dart.c l)))),(upd Sx.h0 3 (some (.var false [(.v (.int .i64 (x.e.s))),(.v (.int .i64 (x.e.n))),(.v (.int .i64 (x.d)))])))⟩ : St)) (l.idxOf x) ?_ hf hr
    intro i hi
    have h1 : i < l.length:=Nat.lt_of_lt_of_le hi (idxOf_le l x)
    have hne:=dec_f (Ne.symm (idxOf_ne hi h1))
    simp only [f77_b1,dec_lt h1,rowsBy_get Dart.c h1,Dart.c,hne,wrap_succ h1 (show l.length≤9223372036854775807 by omega),go_sem,seval]
  by_cases hm : x∈l
  · obtain ⟨hlt, he⟩ := idxOf_at hm
    have hd:=dec_t he.symm
    have:=S _ (by simp only [f77_b1,dec_lt hlt,rowsBy_get Dart.c hlt,Dart.c,hd,go_sem,seval]; rfl) (by simp)
    rw [idx_pos hm]
    rw [call_code F (show F 77=some (.code f77) from rfl)]
    simp only [f77,this,go_sem,seval]
  · have e := idxOf_not hm
    have := S _ (by rw [e]
                    simp only [f77_b1,dec_ge (Nat.le_refl l.length),go_sem,seval]
                    rfl) (by simp)
    rw [idx_neg hm]
    rw [call_code F (show F 77=some (.code f77) from rfl)]
    simp only [f77,this,go_sem,seval]
theorem c_Index_Dart (l : List Dart) (a b c : Int) (hl : Fits l) : call F 77 [.sl .shared 3 (rowsBy Dart.c l),.agg [.int .i64 a,.int .i64 b,.int .i64 c]]=some (.int .i64 (idx l ⟨⟨a,b⟩,c⟩)):=i_Index_Dart l ⟨⟨a,b⟩,c⟩ hl
theorem c_Contains_Dart (l : List Dart) (a b c : Int) (hl : Fits l) : call F 112 [.sl .shared 3 (rowsBy Dart.c l),.agg [.int .i64 a,.int .i64 b,.int .i64 c]]=some (.bool (decide (⟨⟨a,b⟩,c⟩∈l))):=by
  rw [call_code F (show F 112=some (.code f112) from rfl)]
  simp only [f112,c_Index_Dart l a b c hl,go_sem,seval]
  rw [idx_ge0]
def minFrom (x : Dart) (l : List Dart) : Dart:=l.foldl (fun m y => if ordD y m < 0 then y else m) x
theorem minFrom_snoc (x : Dart) (l : List Dart) (y : Dart) : minFrom x (l++[y])=if ordD y (minFrom x l) < 0 then y else minFrom x l:=by unfold minFrom; rw [List.foldl_append]; rfl
def minD : List Dart→Dart
  | [] => Dart0
  | x :: l => minFrom x l
theorem c_MinFunc (x : Dart) (l : List Dart) (hl : Fits (x :: l)) : call F 78 [.sl .shared 3 (rowsBy Dart.c (x :: l)),.fn 79 []]=some (.agg [.int .i64 (minD (x :: l)).e.s,.int .i64 (minD (x :: l)).e.n,.int .i64 (minD (x :: l)).d]):=by
  have hl:=hl.le
  simp only [List.length_cons] at hl
  have h0 : decide (((l.length+1 : Nat) : Int) < 1)=false:=by simp; omega
  have lp : E (cs F) 0 f78_l1 (⟨(upd (upd (upd (upd (upd Sx.e0 6 (.v (.int .i64 (1)))) 5 (.p 5 0)) 4 (.p 4 0)) 1 (.v (.fn 79 []))) 0 (.v (.sl .shared 3 (rowsBy Dart.c (x :: l))))),(upd (upd Sx.h0 5 (some (.var false [(.v (.int .i64 (x.e.s))),(.v (.int .i64 (x.e.n))),(.v (.int .i64 (x.d)))]))) 4 (some (.var false [(.v (.int .i64 (0))),(.v (.int .i64 (0))),(.v (.int .i64 (0)))])))⟩ : St) =
      some (.exit 0,(⟨(upd (upd Sx.e0 5 (.p 5 0)) 4 (.p 4 0)),(upd (upd Sx.h0 5 (some (.var false [(.v (.int .i64 ((minD (x :: l)).e.s))),(.v (.int .i64 ((minD (x :: l)).e.n))),(.v (.int .i64 ((minD (x :: l)).d)))]))) 4 (some (.var false [(.v (.int .i64 (0))),(.v (.int .i64 (0))),(.v (.int .i64 (0)))])))⟩ : St)):=by
    refine loop_to (b:=f78_b1) (fun i => (⟨(upd (upd (upd (upd (upd Sx.e0 6 (.v (.int .i64 (((i+1 : Nat) : Int))))) 5 (.p 5 0)) 4 (.p 4 0)) 1 (.v (.fn 79 []))) 0 (.v (.sl .shared 3 (rowsBy Dart.c (x :: l))))),(upd (upd Sx.h0 5 (some (.var false [(.v (.int .i64 ((minFrom x (l.take i)).e.s))),(.v (.int .i64 ((minFrom x (l.take i)).e.n))),(.v (.int .i64 ((minFrom x (l.take i)).d)))]))) 4 (some (.var false [(.v (.int .i64 (0))),(.v (.int .i64 (0))),(.v (.int .i64 (0)))])))⟩ : St)) l.length ?_ ?_ (by simp)
    · intro i hi
      have h1 : i+1 < (x :: l).length:=by simp; omega
      have hd : decide (((i+1 : Nat) : Int) < ((l.length+1 : Nat) : Int))=true:=by simp; omega
      have hg:=rowsBy_get Dart.c hi
      have hw : IntKind.i64.wrap (((i+1 : Nat) : Int)+1)=((i+1+1 : Nat) : Int):=by rw [wrap64 (by omega) (by omega)]; omega
      have hs : minFrom x (l.take (i+1))=if ordD l[i] (minFrom x (l.take i)) < 0 then l[i] else minFrom x (l.take i):=by rw [List.take_succ_eq_append_getElem hi,minFrom_snoc]
      rw [hs]
      cases hc : decide (ordD l[i] (minFrom x (l.take i)) < 0) with
      | true =>
        have hc':=of_decide_eq_true hc
        rw [if_pos hc']
        simp only [f78_b1,rowsBy,hd,hg,Dart.c,hw,c_ident_OrderDart,hc,go_sem,seval]
      | false =>
        have hc':=of_decide_eq_false hc
        rw [if_neg hc']
        simp only [f78_b1,rowsBy,hd,hg,Dart.c,hw,c_ident_OrderDart,hc,go_sem,seval]
    · have hd : decide (((l.length + 1 : Nat) : Int) < ((l.length + 1 : Nat) : Int)) = false := by simp
      simp only [f78_b1,rowsBy,hd,minD,go_sem,seval]
  simp only [rowsBy,Dart.c] at lp
  rw [call_code F (show F 78=some (.code f78) from rfl)]
  simp only [f78,rowsBy,Dart.c,h0,lp,go_sem,seval]
theorem c_Grow_Dart (n : Int) (hn : 0≤n) (h1 : n≤5864062014634) : call F 93 [.sl (.tight 56) 3 [],.int .i64 n]=some (.sl (.own 56) 3 []):=by
  have k0 : IntKind.i64.wrap 0=0:=rfl
  have k1 : decide (n < 0)=false:=by simp; omega
  have k2 : IntKind.i64.wrap (n - 0)=n:=by rw [Int.sub_zero]; exact wrap64 (by omega) (by omega)
  have k3 : n * 24≤140737488355328:=by omega
  cases hp : decide (n > 0)
  · rw [call_code F (show F 93 = some (.code f93) from rfl)]
    simp only [f93,k0,k1,k2,hp,go_sem,seval]
  · rw [call_code F (show F 93 = some (.code f93) from rfl)]
    simp only [f93,k0,k1,k2,k3,hn,hp,go_sem,seval]
theorem flat_snoc {α : Type} {l : List (List α)} {i : Nat} (hi : i < l.length) : (l.take (i+1)).flatten=(l.take i).flatten++l[i]:=by
  rw [List.take_succ_eq_append_getElem hi,List.flatten_append,List.flatten_cons,List.flatten_nil,List.append_nil]
theorem c_Concat_Dart (l : List (List Dart)) (hl : Fits l.flatten) (hp : Fits l) : call F 80 [.sl .shared 1 (rowsBy (fun p => [TV.sl .shared 3 (rowsBy Dart.c p)]) l)]=some (.sl (.own 56) 3 (rowsBy Dart.c l.flatten)):=by
  have hl:=hl.le
  have hp:=hp.le
  have l1 : E (cs F) 0 f80_l1 (⟨(upd (upd (upd (upd (upd Sx.e0 11 (.v (.int .i64 (0)))) 10 (.v (.int .i64 ((l.length : Int))))) 9 (.v (.sl .shared 1 (rowsBy (fun p => [.sl .shared 3 (rowsBy Dart.c p)]) l)))) 3 (.v (.int .i64 (0)))) 0 (.v (.sl .shared 1 (rowsBy (fun p => [.sl .shared 3 (rowsBy Dart.c p)]) l)))),Sx.h0⟩ : St) =
      some (.exit 0,(⟨(upd (upd Sx.e0 3 (.v (.int .i64 ((l.flatten.length : Int))))) 0 (.v (.sl .shared 1 (rowsBy (fun p => [.sl .shared 3 (rowsBy Dart.c p)]) l)))),Sx.h0⟩ : St)):=by
    refine loop_to (b:=f80_b1) (fun i => (⟨(upd (upd (upd (upd (upd Sx.e0 11 (.v (.int .i64 ((i : Int))))) 10 (.v (.int .i64 ((l.length : Int))))) 9 (.v (.sl .shared 1 (rowsBy (fun p => [.sl .shared 3 (rowsBy Dart.c p)]) l)))) 3 (.v (.int .i64 (((l.take i).flatten.length : Int))))) 0 (.v (.sl .shared 1 (rowsBy (fun p => [.sl .shared 3 (rowsBy Dart.c p)]) l)))),Sx.h0⟩ : St)) l.length ?_ ?_ (by simp)
    · intro i hi
      have hs : (l.take (i+1)).flatten.length=(l.take i).flatten.length+l[i].length:=by rw [flat_snoc hi,List.length_append]
      have hb : (l.take (i+1)).flatten.length≤l.flatten.length:=by
        have e:=congrArg (fun x => x.flatten.length) (List.take_append_drop (i+1) l)
        simp only [List.flatten_append,List.length_append] at e
        omega
      have hw : IntKind.i64.wrap (((l.take i).flatten.length : Int)+(l[i].length : Int))=((l.take (i+1)).flatten.length : Int):=by rw [wrap64 (by omega) (by omega)]; omega
      have hn : decide (((l.take (i+1)).flatten.length : Int) < 0)=false:=by simp
      simp only [f80_b1,dec_lt hi,rowsBy_get (fun p => [TV.sl .shared 3 (rowsBy Dart.c p)]) hi,hw,hn,wrap_succ hi (show l.length≤9223372036854775807 by omega),go_sem,seval]
    · simp only [f80_b1,dec_ge (Nat.le_refl l.length),go_sem,seval]
  have gr:=c_Grow_Dart (l.flatten.length : Int) (by omega) (by omega)
  have l2 : E (cs F) 0 f80_l2 (⟨(upd (upd (upd (upd Sx.e0 27 (.v (.int .i64 (0)))) 26 (.v (.int .i64 ((l.length : Int))))) 25 (.v (.sl .shared 1 (rowsBy (fun p => [.sl .shared 3 (rowsBy Dart.c p)]) l)))) 6 (.s 6 0 0)),(upd Sx.h0 6 (some (.arr false 56 3 [])))⟩ : St) =
      some (.exit 2,(⟨(upd Sx.e0 6 (.s 6 0 l.flatten.length)),(upd Sx.h0 6 (some (.arr false 56 3 (rowsBy Dart.c l.flatten))))⟩ : St)):=by
    refine loop_to (b:=f80_b2) (fun i => (⟨(upd (upd (upd (upd Sx.e0 27 (.v (.int .i64 ((i : Int))))) 26 (.v (.int .i64 ((l.length : Int))))) 25 (.v (.sl .shared 1 (rowsBy (fun p => [.sl .shared 3 (rowsBy Dart.c p)]) l)))) 6 (.s 6 0 (l.take i).flatten.length)),(upd Sx.h0 6 (some (.arr false 56 3 (rowsBy Dart.c (l.take i).flatten))))⟩ : St)) l.length ?_ ?_ (by simp)
    · intro i hi
      have hs:=flat_snoc hi
      have hb : (l.take (i+1)).flatten.length≤l.flatten.length:=by
        have e:=congrArg (fun x => x.flatten.length) (List.take_append_drop (i+1) l)
        simp only [List.flatten_append,List.length_append] at e
        omega
      have hln : (l.take (i+1)).flatten.length=(l.take i).flatten.length+l[i].length:=by rw [hs,List.length_append]
      have hby : ((l.take i).flatten.length+l[i].length) * 24≤140737488355328:=by omega
      rw [hln,hs]
      simp only [f80_b2,dec_lt hi,rowsBy_get (fun p => [TV.sl .shared 3 (rowsBy Dart.c p)]) hi,hby,wrap_succ hi (show l.length≤9223372036854775807 by omega),go_sem,seval]
    · simp only [f80_b2,dec_ge (Nat.le_refl l.length),go_sem,seval]
  rw [call_code F (show F 80=some (.code f80) from rfl)]
  simp only [f80,l1,gr,l2,go_sem,seval]
theorem c_Concat2 (p q : List Dart) (h : Fits (p++q)) : call F 80 [.sl .shared 1 [[.sl .shared 3 (rowsBy Dart.c p)],[.sl .shared 3 (rowsBy Dart.c q)]]]=some (.sl (.own 56) 3 (rowsBy Dart.c (p++q))):=by
  have:=c_Concat_Dart [p,q] (by simpa using h) (by unfold Fits; simp)
  simpa [rowsBy] using this
def turn (l : List Dart) : List Dart:=l.drop (l.idxOf (minD l))++l.take (l.idxOf (minD l))
theorem minFrom_mem (x : Dart) (l : List Dart) : minFrom x l∈x :: l:=by
  unfold minFrom
  induction l generalizing x with
  | nil => simp
  | cons y l ih =>
    rw [List.foldl_cons]
    have:=ih (if ordD y x < 0 then y else x)
    split at this<;>rename_i h<;>simp only [List.mem_cons] at this ⊢<;>(simp only [h,if_true,if_false]; rcases this with h | h<;>simp [h])
theorem minD_mem {l : List Dart} (h : l≠[]) : minD l∈l:=by
  cases l with
  | nil => exact absurd rfl h
  | cons x l => exact minFrom_mem x l
theorem turn_length (l : List Dart) : (turn l).length=l.length:=by
  unfold turn
  simp only [List.length_append,List.length_drop,List.length_take]
  have:=idxOf_le l (minD l)
  omega
@[go_sem] theorem fits_turn {l : List Dart} (h : Fits l) : Fits (turn l):=by unfold Fits; rw [turn_length]; exact h
theorem c_ring_Turn (l : List Dart) (hl : Fits l) : call F 62 [.sl .shared 3 (rowsBy Dart.c l)]=some (.sl (.own 56) 3 (rowsBy Dart.c (turn l))):=by
  cases l with
  | nil =>
    rw [call_code F (show F 62=some (.code f62) from rfl)]
    simp only [f62,turn,rowsBy,go_sem,seval]
  | cons x l =>
    have h1 : decide (((l.length+1 : Nat) : Int)=0)=false:=by simp; omega
    have mf:=c_MinFunc x l hl
    have hm : minD (x :: l)∈x :: l:=minD_mem (by simp)
    have ix:=i_Index_Dart (x :: l) (minD (x :: l)) hl
    rw [idx_pos hm] at ix
    have hlt:=List.idxOf_lt_length_iff.2 hm
    have hle : ((List.idxOf (minD (x :: l)) (x :: l) : Nat) : Int)≤(((x :: l).length : Nat) : Int):=by omega
    have cc:=c_Concat2 ((x :: l).drop ((x :: l).idxOf (minD (x :: l)))) ((x :: l).take ((x :: l).idxOf (minD (x :: l)))) (by unfold Fits; have:=hl.le; simp only [List.length_append,List.length_drop,List.length_take]; omega)
    generalize hL : x :: l=L at *
    have hlen : l.length+1=L.length:=by rw [← hL]; rfl
    rw [hlen] at h1
    rw [call_code F (show F 62=some (.code f62) from rfl)]
    simp only [f62,h1,mf,ix,hle,cc,go_sem,seval]
    rfl
def byD (l : List Dart) (d : Dart) (n : Nat) : Dart:=if d∈l then l.getD ((l.idxOf d+n) % l.length) Dart0 else Dart0
def nextD (l : List Dart) (d : Dart) : Dart:=byD l d 1
def prevD (l : List Dart) (d : Dart) : Dart:=byD l d (l.length - 1)
theorem tmod_nat {a b : Nat} : ((a : Int)).tmod (b : Int)=((a % b : Nat) : Int):=by
  rw [Int.tmod_eq_emod_of_nonneg (by omega)]; omega
def dartT (x : Dart) : TV:=.agg [.int .i64 x.e.s,.int .i64 x.e.n,.int .i64 x.d]
theorem i_ring_step (l : List Dart) (x : Dart) (n : Nat) (hn : n≤5864062014634) (hl : Fits l) : call F 114 [.sl .shared 3 (rowsBy Dart.c l),.agg [.int .i64 x.e.s,.int .i64 x.e.n,.int .i64 x.d],.int .i64 n]=some (.tup [dartT (byD l x n),.bool (decide (x∈l))]):=by
  have ix:=i_Index_Dart l x hl
  have hl:=hl.le
  by_cases hm : x∈l
  · rw [idx_pos hm] at ix
    obtain ⟨hlt,_⟩:=idxOf_at hm
    have h1 : decide (((l.idxOf x : Nat) : Int) < 0)=false:=by simp
    have h2 : IntKind.i64.wrap (((l.idxOf x : Nat) : Int)+(n : Int))=((l.idxOf x+n : Nat) : Int):=by rw [wrap64 (by omega) (by omega)]; omega
    have h3 : ¬ ((l.length : Int)=0):=by omega
    have h4 : (l.idxOf x+n) % l.length < l.length:=Nat.mod_lt _ (by omega)
    have h5 : (((l.idxOf x+n) % l.length : Nat) : Int) < (l.length : Int):=by omega
    have h6 : byD l x n=l[(l.idxOf x+n) % l.length]:=by unfold byD; rw [if_pos hm]; simp [h4]
    rw [dec_t hm,h6]
    rw [call_code F (show F 114=some (.code f114) from rfl)]
    simp only [f114,ix,h1,h2,h3,tmod_nat,rowsBy_get Dart.c h4,Dart.c,dartT,go_sem,seval]
  · rw [idx_neg hm] at ix
    have h6 : byD l x n=Dart0:=by unfold byD; rw [if_neg hm]
    rw [dec_f hm,h6]
    rw [call_code F (show F 114=some (.code f114) from rfl)]
    simp only [f114,ix,dartT,Dart0,ID0,go_sem,seval]
theorem i_ring_Next (l : List Dart) (x : Dart) (hl : Fits l) : call F 113 [.sl .shared 3 (rowsBy Dart.c l),.agg [.int .i64 x.e.s,.int .i64 x.e.n,.int .i64 x.d]]=some (.tup [dartT (nextD l x),.bool (decide (x∈l))]):=by
  have st:=i_ring_step l x 1 (by omega) hl
  simp only [dartT,Int.cast_ofNat_Int] at st
  rw [call_code F (show F 113=some (.code f113) from rfl)]
  simp only [f113,st,dartT,nextD,go_sem,seval]
theorem first_diff {α : Type} [DecidableEq α] : ∀ (l m : List α),l.length=m.length→l≠m→∃ k,∃ (h1 : k < l.length) (h2 : k < m.length),(∀ i (h : i < k),l[i]=m[i])∧l[k]≠m[k]
  | [],[],_,h => absurd rfl h
  | [],_ :: _,h,_ => by simp at h
  | _ :: _,[],h,_ => by simp at h
  | a :: l, b :: m, hl, hne => by
    by_cases hab : a=b
    · subst hab
      obtain ⟨k,h1,h2,h3,h4⟩:=first_diff l m (by simpa using hl) (fun e => hne (by rw [e]))
      refine ⟨k+1,by simp; omega,by simp; omega,fun i hi => ?_,by simpa using h4⟩
      cases i with
      | zero => rfl
      | succ i => simpa using h3 i (by omega)
    · exact ⟨0,by simp,by simp,fun i hi => absurd hi (Nat.not_lt_zero _),by simpa using hab⟩
@[go_sem] theorem darts_snoc (l : List Dart) (x : Dart) : rowsBy Dart.c l++[[.int .i64 x.e.s,.int .i64 x.e.n,.int .i64 x.d]]=rowsBy Dart.c (l++[x]):=rowsBy_snoc Dart.c l x
@[go_sem] theorem darts_one (x : Dart) : [[.int .i64 x.e.s,.int .i64 x.e.n,.int .i64 x.d]]=rowsBy Dart.c [x]:=rfl
theorem len_eq {n m : Nat} (h : n=m) : decide (¬ ((n : Int)=(m : Int)))=false:=by simp; omega
theorem len_ne {n m : Nat} (h : n≠m) : decide (¬ ((n : Int)=(m : Int)))=true:=by simp; omega
theorem c_Equal_Dart (l m : List Dart) (hl : Fits l) : call F 61 [.sl .shared 3 (rowsBy Dart.c l),.sl .shared 3 (rowsBy Dart.c m)]=some (.bool (decide (l=m))):=by
  have hl:=hl.le
  by_cases hlen : l.length=m.length
  · have he := len_eq hlen
    have S : ∀ (k : Nat) (hk : k≤l.length) (r : Ex × St),(∀ i (h : i < k) (h1 : i < l.length) (h2 : i < m.length),l[i]=m[i]) →
        E (cs F) 0 f61_b1 (⟨(upd (upd (upd (upd Sx.e0 13 (.v (.int .i64 ((k : Int))))) 12 (.v (.int .i64 ((l.length : Int))))) 1 (.v (.sl .shared 3 (rowsBy Dart.c m)))) 0 (.v (.sl .shared 3 (rowsBy Dart.c l)))),Sx.h0⟩ : St)=some r→r.1≠.norm →
        E (cs F) 0 f61_l1 (⟨(upd (upd (upd (upd Sx.e0 13 (.v (.int .i64 (0)))) 12 (.v (.int .i64 ((l.length : Int))))) 1 (.v (.sl .shared 3 (rowsBy Dart.c m)))) 0 (.v (.sl .shared 3 (rowsBy Dart.c l)))),Sx.h0⟩ : St)=some r:=by
      intro k hk r hsame hf hr
      refine loop_to (b:=f61_b1) (fun i => (⟨(upd (upd (upd (upd Sx.e0 13 (.v (.int .i64 ((i : Int))))) 12 (.v (.int .i64 ((l.length : Int))))) 1 (.v (.sl .shared 3 (rowsBy Dart.c m)))) 0 (.v (.sl .shared 3 (rowsBy Dart.c l)))),Sx.h0⟩ : St)) k ?_ hf hr
      intro i hi
      have h1 : i < l.length:=by omega
      have h2 : i < m.length:=by omega
      have hd:=dec_t (hsame i hi h1 h2)
      simp only [f61_b1,dec_lt h1,rowsBy_get Dart.c h1,rowsBy_get Dart.c h2,Dart.c,hd,wrap_succ h1 (show l.length≤9223372036854775807 by omega),go_sem,seval]
    by_cases hlm : l=m
    · have := S l.length (Nat.le_refl _) _ (fun i _ h1 h2 => by subst hlm; rfl) (by simp only [f61_b1, dec_ge (Nat.le_refl l.length), go_sem, seval]; rfl) (by simp)
      rw [dec_t hlm]
      rw [call_code F (show F 61=some (.code f61) from rfl)]
      simp only [f61,he,this,go_sem,seval]
    · obtain ⟨k, h1, h2, h3, h4⟩ := first_diff l m hlen hlm
      have hd:=dec_f h4
      have:=S k (by omega) _ (fun i hi _ _ => h3 i hi) (by simp only [f61_b1,dec_lt h1,rowsBy_get Dart.c h1,rowsBy_get Dart.c h2,Dart.c,hd,go_sem,seval]; rfl) (by simp)
      rw [dec_f hlm]
      rw [call_code F (show F 61=some (.code f61) from rfl)]
      simp only [f61,he,this,go_sem,seval]
  · have hlm : l ≠ m := fun e => hlen (by rw [e])
    have he:=len_ne hlen
    rw [dec_f hlm]
    rw [call_code F (show F 61=some (.code f61) from rfl)]
    simp only [f61,he,go_sem,seval]
theorem c_r03_Darts (l m : List Dart) (hl : Fits l) : call F 34 [.sl .shared 3 (rowsBy Dart.c l),.sl .shared 3 (rowsBy Dart.c m)]=some (.bool (decide (l=m))):=by
  have hl:=hl.le
  by_cases hlen : l.length=m.length
  · have he := len_eq hlen
    have S : ∀ (k : Nat) (hk : k≤l.length) (r : Ex × St),(∀ i (h : i < k) (h1 : i < l.length) (h2 : i < m.length),l[i]=m[i]) →
        E (cs F) 0 f34_b1 (⟨(upd (upd (upd Sx.e0 5 (.v (.int .i64 ((k : Int))))) 1 (.v (.sl .shared 3 (rowsBy Dart.c m)))) 0 (.v (.sl .shared 3 (rowsBy Dart.c l)))),Sx.h0⟩ : St)=some r→r.1≠.norm →
        E (cs F) 0 f34_l1 (⟨(upd (upd (upd Sx.e0 5 (.v (.int .i64 (0)))) 1 (.v (.sl .shared 3 (rowsBy Dart.c m)))) 0 (.v (.sl .shared 3 (rowsBy Dart.c l)))),Sx.h0⟩ : St)=some r:=by
      intro k hk r hsame hf hr
      refine loop_to (b:=f34_b1) (fun i => (⟨(upd (upd (upd Sx.e0 5 (.v (.int .i64 ((i : Int))))) 1 (.v (.sl .shared 3 (rowsBy Dart.c m)))) 0 (.v (.sl .shared 3 (rowsBy Dart.c l)))),Sx.h0⟩ : St)) k ?_ hf hr
      intro i hi
      have h1 : i < l.length:=by omega
      have h2 : i < m.length:=by omega
      have hd:=dec_t (hsame i hi h1 h2)
      simp only [f34_b1,dec_lt h1,rowsBy_get Dart.c h1,rowsBy_get Dart.c h2,Dart.c,hd,wrap_succ h1 (show l.length≤9223372036854775807 by omega),go_sem,seval]
    by_cases hlm : l=m
    · have := S l.length (Nat.le_refl _) _ (fun i _ h1 h2 => by subst hlm; rfl) (by simp only [f34_b1, dec_ge (Nat.le_refl l.length), go_sem, seval]; rfl) (by simp)
      rw [dec_t hlm]
      rw [call_code F (show F 34=some (.code f34) from rfl)]
      simp only [f34,he,this,go_sem,seval]
    · obtain ⟨k, h1, h2, h3, h4⟩ := first_diff l m hlen hlm
      have hd:=dec_f h4
      have:=S k (by omega) _ (fun i hi _ _ => h3 i hi) (by simp only [f34_b1,dec_lt h1,rowsBy_get Dart.c h1,rowsBy_get Dart.c h2,Dart.c,hd,go_sem,seval]; rfl) (by simp)
      rw [dec_f hlm]
      rw [call_code F (show F 34=some (.code f34) from rfl)]
      simp only [f34,he,this,go_sem,seval]
  · have hlm : l ≠ m := fun e => hlen (by rw [e])
    have he:=len_ne hlen
    rw [dec_f hlm]
    rw [call_code F (show F 34=some (.code f34) from rfl)]
    simp only [f34,he,go_sem,seval]
end Go.Proofs.Ytcecojdeljbjoaa.Sx
namespace Go.Proofs.Ytcecojdeljbjoaa.Sx
open Go
structure Gn where
  d : Dart
  to : Dart
deriving DecidableEq
def Gn.c (g : Gn) : List TV:=[.int .i64 g.d.e.s,.int .i64 g.d.e.n,.int .i64 g.d.d,.int .i64 g.to.e.s,.int .i64 g.to.e.n,.int .i64 g.to.d]
def firstBy {α : Type} (p : α→Bool) (l : List α) : Option α:=l[l.findIdx p]?
theorem firstBy_none {α : Type} {p : α→Bool} {l : List α} (h : l.findIdx p=l.length) : firstBy p l=none:=by
  unfold firstBy; rw [h]; simp
theorem firstBy_some {α : Type} {p : α→Bool} {l : List α} (h : l.findIdx p < l.length) : firstBy p l=some l[l.findIdx p]:=by
  unfold firstBy; rw [List.getElem?_eq_getElem h]
theorem findIdx_cases {α : Type} (p : α→Bool) (l : List α) : l.findIdx p=l.length∨∃ h : l.findIdx p < l.length,p l[l.findIdx p]=true:=by
  rcases Nat.lt_or_ge (l.findIdx p) l.length with h | h
  · exact .inr ⟨h,List.findIdx_getElem⟩
  · exact .inl (Nat.le_antisymm List.findIdx_le_length h)
theorem findIdx_not {α : Type} {p : α→Bool} {l : List α} {i : Nat} (h : i < l.findIdx p) (hi : i < l.length) : p l[i]=false:=by
  have:=List.not_of_lt_findIdx h; simpa using this
theorem firstBy_mem {α : Type} {p : α→Bool} {l : List α} {x : α} (h : firstBy p l=some x) : x∈l∧p x=true:=by
  rcases findIdx_cases p l with h0 | ⟨h1,h2⟩
  · rw [firstBy_none h0] at h; cases h
  · rw [firstBy_some h1] at h
    obtain rfl:=Option.some.inj h
    exact ⟨List.getElem_mem _,h2⟩
theorem firstBy_no {α : Type} {p : α→Bool} {l : List α} (h : firstBy p l=none) : ∀ x∈l,p x=false:=by
  rcases findIdx_cases p l with h0 | ⟨h1,h2⟩
  · intro x hx
    obtain ⟨i,hi,rfl⟩:=List.mem_iff_getElem.1 hx
    exact findIdx_not (by omega) hi
  · rw [firstBy_some h1] at h; cases h
def atBy (l : List Vx) (d : Dart) : Option Vx:=firstBy (fun v => decide (d∈v.ring)) l
def idT (x : ID) : TV:=.agg [.int .i64 x.s,.int .i64 x.n]
def atT : Option Vx→TV
  | some v => .tup [idT v.id,.bool true]
  | none => .tup [idT ⟨0,0⟩,.bool false]
def FitsR (l : List Vx) : Prop:=∀ v∈l,Fits v.ring
theorem i_vertexID (v : Vx) : call F 43 [.agg [.int .i64 v.id.s,.int .i64 v.id.n,.sl .shared 3 (rowsBy Dart.c v.ring),.str v.label,.int .i64 v.attr]]=some (.agg [.int .i64 v.id.s,.int .i64 v.id.n]):=by
  rw [call_code F (show F 43=some (.code f43) from rfl)]
  simp only [f43,go_sem,seval]
theorem i_At (l : List Vx) (d : Dart) (hl : Fits l) (hr : FitsR l) (es : TV) : call F 106 [.agg [.sl .shared 5 (rowsBy Vx.c l),es],.agg [.int .i64 d.e.s,.int .i64 d.e.n,.int .i64 d.d]]=some (atT (atBy l d)):=by
  have hle : (l).length≤5864062014634:=hl.le
  have hw : (l).length≤9223372036854775807:=Nat.le_trans hle (by decide)
  have S : ∀ n,n≤(l).length→(∀ i,i < n→∀ hi : i < (l).length,(fun v : Vx => decide (d∈v.ring)) (l)[i]=false)→∀ r,E (cs F) 0 f106_b1 (⟨(upd (upd (upd (upd (upd Sx.e0 11 (.v (.int .i64 ((n : Int))))) 10 (.v (.int .i64 ((l.length : Int))))) 9 (.v (.sl .shared 5 (rowsBy Vx.c l)))) 4 (.p 4 0)) 3 (.p 3 0)),(upd (upd Sx.h0 4 (some (.var false [(.v (.int .i64 (0))),(.v (.int .i64 (0)))]))) 3 (some (.var false [(.v (.int .i64 (d.e.s))),(.v (.int .i64 (d.e.n))),(.v (.int .i64 (d.d)))])))⟩ : St)=some r→r.1≠.norm →
      E (cs F) 0 f106_l1 (⟨(upd (upd (upd (upd (upd Sx.e0 11 (.v (.int .i64 (0)))) 10 (.v (.int .i64 ((l.length : Int))))) 9 (.v (.sl .shared 5 (rowsBy Vx.c l)))) 4 (.p 4 0)) 3 (.p 3 0)),(upd (upd Sx.h0 4 (some (.var false [(.v (.int .i64 (0))),(.v (.int .i64 (0)))]))) 3 (some (.var false [(.v (.int .i64 (d.e.s))),(.v (.int .i64 (d.e.n))),(.v (.int .i64 (d.d)))])))⟩ : St)=some r:=by
    intro n hn hno r hf hrr
    refine loop_to (b:=f106_b1) (fun i => (⟨(upd (upd (upd (upd (upd Sx.e0 11 (.v (.int .i64 ((i : Int))))) 10 (.v (.int .i64 ((l.length : Int))))) 9 (.v (.sl .shared 5 (rowsBy Vx.c l)))) 4 (.p 4 0)) 3 (.p 3 0)),(upd (upd Sx.h0 4 (some (.var false [(.v (.int .i64 (0))),(.v (.int .i64 (0)))]))) 3 (some (.var false [(.v (.int .i64 (d.e.s))),(.v (.int .i64 (d.e.n))),(.v (.int .i64 (d.d)))])))⟩ : St)) n ?_ hf hrr
    intro i hi
    have h1 : i < (l).length:=Nat.lt_of_lt_of_le hi hn
    have h1z : (i : Int) < ((l).length : Int):=Int.ofNat_lt.2 h1
    have hne:=hno i hi h1
    have hv:=c_Contains_Dart l[i].ring d.e.s d.e.n d.d (hr _ (List.getElem_mem h1))
    rw [show decide ((⟨⟨d.e.s,d.e.n⟩,d.d⟩ : Dart)∈l[i].ring)=false from hne] at hv
    simp only [f106_b1,dec_lt h1,h1z,rowsBy_get Vx.c h1,Vx.c,hv,wrap_succ h1 hw,go_sem,seval]
  have S:=S ((l).findIdx (fun v : Vx => decide (d∈v.ring))) List.findIdx_le_length (fun i h1 h2 => findIdx_not h1 h2)
  rcases findIdx_cases (fun v : Vx => decide (d∈v.ring)) (l) with h0 | ⟨hlt,hp⟩
  · rw [h0] at S
    have := S _ (by simp only [f106_b1, dec_ge (Nat.le_refl (l).length), go_sem, seval]
                    rfl) (by simp)
    rw [atBy,firstBy_none h0,atT,idT]
    rw [call_code F (show F 106=some (.code f106) from rfl)]
    simp only [f106,this,go_sem,seval]
  · rw [atBy, firstBy_some hlt, atT, idT]
    generalize (l).findIdx (fun v : Vx => decide (d∈v.ring))=n at *
    have hltz : (n : Int) < ((l).length : Int):=Int.ofNat_lt.2 hlt
    have hv:=c_Contains_Dart l[n].ring d.e.s d.e.n d.d (hr _ (List.getElem_mem hlt))
    rw [show decide ((⟨⟨d.e.s,d.e.n⟩,d.d⟩ : Dart)∈l[n].ring)=true from hp] at hv
    have := S _ (by simp only [f106_b1, dec_lt hlt, hltz, rowsBy_get Vx.c hlt, Vx.c, hv, go_sem, seval]
                    rfl) (by simp)
    rw [call_code F (show F 106=some (.code f106) from rfl)]
    simp only [f106,this,go_sem,seval]
end Go.Proofs.Ytcecojdeljbjoaa.Sx
namespace Go.Proofs.Ytcecojdeljbjoaa.Sx
open Go
end Go.Proofs.Ytcecojdeljbjoaa.Sx
namespace Go.Proofs.Ytcecojdeljbjoaa.Sx
open Go
theorem first_cases (p : Nat→Bool) : ∀ N,(∀ i,i < N→p i=false)∨∃ k,k < N∧p k=true∧∀ i,i < k→p i=false
  | 0 => .inl fun _ h => absurd h (Nat.not_lt_zero _)
  | N + 1 => by
    rcases first_cases p N with h | ⟨k,h1,h2,h3⟩
    · cases hp : p N with
      | false =>
        refine .inl fun i hi => ?_
        by_cases e : i=N
        · rw [e]; exact hp
        · exact h i (by omega)
      | true => exact .inr ⟨N,Nat.lt_succ_self _,hp,h⟩
    · exact .inr ⟨k,by omega,h2,h3⟩
def badR (l : List ID) (i : Nat) : Bool:=!mayI (l.getD i ID0) || (decide (0 < i) && decide (ordI (l.getD (i - 1) ID0) (l.getD i ID0) ≥ 0))
def riseI (l : List ID) : Bool:=(List.range l.length).all fun i => !badR l i
theorem riseI_true {l : List ID} (h : ∀ i,i < l.length→badR l i=false) : riseI l=true:=by
  unfold riseI; rw [List.all_eq_true]; intro i hi; rw [h i (List.mem_range.1 hi)]; rfl
theorem riseI_false {l : List ID} {k : Nat} (hk : k < l.length) (h : badR l k=true) : riseI l=false:=by
  unfold riseI; rw [List.all_eq_false]; exact ⟨k,List.mem_range.2 hk,by rw [h]; simp⟩
theorem getD_lt {l : List ID} {i : Nat} (h : i < l.length) : l.getD i ID0=l[i]:=by rw [List.getD_eq_getElem?_getD,List.getElem?_eq_getElem h]; rfl
theorem badR_no {l : List ID} {i : Nat} (hi : i < l.length) (h : badR l i=false) : mayI l[i]=true∧∀ j (e : i=j+1),ordI (l[j]'(by omega)) l[i] < 0:=by
  unfold badR at h
  rw [getD_lt hi] at h
  rw [Bool.or_eq_false_iff] at h
  refine ⟨by simpa using h.1,?_⟩
  rintro j rfl
  have h2:=h.2
  rw [show j+1 - 1=j by omega,getD_lt (show j < l.length by omega)] at h2
  simp at h2
  exact h2
theorem badR_yes {l : List ID} {i : Nat} (hi : i < l.length) (h : badR l i=true) (hm : mayI l[i]=true) : ∃ j,∃ e : i=j+1,ordI (l[j]'(by omega)) l[i] ≥ 0:=by
  unfold badR at h
  rw [getD_lt hi,hm] at h
  cases i with
  | zero => simp at h
  | succ j =>
    rw [show j+1 - 1=j by omega,getD_lt (show j < l.length by omega)] at h
    exact ⟨j,rfl,by simpa using h⟩
theorem c_rise (l : List ID) (hl : Fits l) : call F 41 [.sl .shared 2 (rowsBy ID.c l)]=some (.bool (riseI l)):=by
  have hle:=hl.le
  have hw : l.length≤9223372036854775807:=by omega
  have S : ∀ n,n≤l.length→(∀ i,i < n→badR l i=false)→∀ r,E (cs F) 0 f41_b1 (⟨(upd (upd (upd (upd Sx.e0 7 (.v (.int .i64 ((n : Int))))) 6 (.v (.int .i64 ((l.length : Int))))) 5 (.v (.sl .shared 2 (rowsBy ID.c l)))) 0 (.v (.sl .shared 2 (rowsBy ID.c l)))),Sx.h0⟩ : St)=some r→r.1≠.norm →
      E (cs F) 0 f41_l1 (⟨(upd (upd (upd (upd Sx.e0 7 (.v (.int .i64 (0)))) 6 (.v (.int .i64 ((l.length : Int))))) 5 (.v (.sl .shared 2 (rowsBy ID.c l)))) 0 (.v (.sl .shared 2 (rowsBy ID.c l)))),Sx.h0⟩ : St)=some r:=by
    intro n hn hno r hf hrr
    refine loop_to (b:=f41_b1) (fun i => (⟨(upd (upd (upd (upd Sx.e0 7 (.v (.int .i64 ((i : Int))))) 6 (.v (.int .i64 ((l.length : Int))))) 5 (.v (.sl .shared 2 (rowsBy ID.c l)))) 0 (.v (.sl .shared 2 (rowsBy ID.c l)))),Sx.h0⟩ : St)) n ?_ hf hrr
    intro i hi
    have h1 : i < l.length:=by omega
    have h1z : (i : Int) < (l.length : Int):=by omega
    obtain ⟨hm,ho⟩:=badR_no h1 (hno i hi)
    have cm:=c_ident_May l[i].s l[i].n
    rw [show mayI ⟨l[i].s,l[i].n⟩=true from hm] at cm
    cases i with
    | zero =>
      have z1 : decide ((0 : Int) < (l.length : Int))=true:=decide_eq_true h1z
      have z2 : (0 : Int) < (l.length : Int):=h1z
      simp only [f41_b1,z1,z2,rowsBy_get ID.c h1,ID.c,cm,show decide ((0 : Int) > 0)=false from rfl,show IntKind.i64.wrap 1=1 from rfl,go_sem,seval]
    | succ j =>
      have hj : j < l.length:=by omega
      have hjz : (j : Int) < (l.length : Int):=by omega
      have w1 : IntKind.i64.wrap (((j+1 : Nat) : Int) - 1)=(j : Int):=by rw [wrap64 (by omega) (by omega)]; omega
      have k1 : decide (((j+1 : Nat) : Int) > 0)=true:=decide_eq_true (by omega)
      have co:=c_ident_Order l[j].s l[j].n l[j+1].s l[j+1].n
      have ho' : decide (ordI ⟨l[j].s,l[j].n⟩ ⟨l[j+1].s,l[j+1].n⟩ ≥ 0)=false:=decide_eq_false (by have:=ho j rfl; show ¬ (ordI l[j] l[j+1] ≥ 0); omega)
      simp only [f41_b1,dec_lt h1,h1z,hjz,rowsBy_get ID.c h1,rowsBy_get ID.c hj,ID.c,cm,co,ho',w1,k1,wrap_succ h1 hw,go_sem,seval]
  rcases first_cases (badR l) l.length with hall | ⟨k,hk,hbad,hno⟩
  · have S := S l.length (Nat.le_refl _) hall
    rw [show riseI l=true from riseI_true hall]
    have := S _ (by simp only [f41_b1, dec_ge (Nat.le_refl l.length), go_sem, seval]
                    rfl) (by simp)
    rw [call_code F (show F 41=some (.code f41) from rfl)]
    simp only [f41,this,go_sem,seval]
  · have S := S k (Nat.le_of_lt hk) hno
    rw [show riseI l=false from riseI_false hk hbad]
    have hkz : (k : Int) < (l.length : Int):=by omega
    have cm:=c_ident_May l[k].s l[k].n
    by_cases hm : mayI l[k]=true
    · rw [show mayI ⟨l[k].s, l[k].n⟩ = true from hm] at cm
      obtain ⟨j,rfl,ho⟩:=badR_yes hk hbad hm
      have hj : j < l.length:=by omega
      have hjz : (j : Int) < (l.length : Int):=by omega
      have w1 : IntKind.i64.wrap (((j+1 : Nat) : Int) - 1)=(j : Int):=by rw [wrap64 (by omega) (by omega)]; omega
      have k1 : decide (((j+1 : Nat) : Int) > 0)=true:=decide_eq_true (by omega)
      have co:=c_ident_Order l[j].s l[j].n l[j+1].s l[j+1].n
      have ho' : decide (ordI ⟨l[j].s,l[j].n⟩ ⟨l[j+1].s,l[j+1].n⟩ ≥ 0)=true:=decide_eq_true ho
      have := S _ (by simp only [f41_b1, dec_lt hk, hkz, hjz, rowsBy_get ID.c hk, rowsBy_get ID.c hj, ID.c, cm, co, ho', w1, k1, go_sem, seval]
                      rfl) (by simp)
      rw [call_code F (show F 41=some (.code f41) from rfl)]
      simp only [f41,this,go_sem,seval]
    · rw [show mayI ⟨l[k].s, l[k].n⟩ = false by simpa using hm] at cm
      have := S _ (by simp only [f41_b1, dec_lt hk, hkz, rowsBy_get ID.c hk, ID.c, cm, go_sem, seval]
                      rfl) (by simp)
      rw [call_code F (show F 41=some (.code f41) from rfl)]
      simp only [f41,this,go_sem,seval]
theorem c_MayAttr (n : Int) : call F 51 [.int .i64 n]=some (.bool (decide (n ≥ -1099511627776) && decide (n≤1099511627776))):=by
  by_cases h : n ≥ -1099511627776
  · rw [dec_t h]
    rw [call_code F (show F 51=some (.code f51) from rfl)]
    simp only [f51,dec_t h,go_sem,seval]
  · rw [dec_f h]
    rw [call_code F (show F 51=some (.code f51) from rfl)]
    simp only [f51,dec_f h,go_sem,seval]
theorem i_edgeID (v : Ed) : call F 45 [.agg [.int .i64 v.id.s,.int .i64 v.id.n,.str v.label,.int .i64 v.attr]]=some (.agg [.int .i64 v.id.s,.int .i64 v.id.n]):=by
  rw [call_code F (show F 45=some (.code f45) from rfl)]
  simp only [f45,go_sem,seval]
theorem c_named_Vertex_more (l : List Vx) (hl : Fits l) (hne : 0 < l.length) : E (cs F) 0 f42_l1 (⟨(upd (upd (upd (upd (upd Sx.e0 10 (.v (.int .i64 (1)))) 9 (.v (.int .i64 ((l.length : Int))))) 8 (.v (.sl .shared 5 (rowsBy Vx.c l)))) 5 (.s 5 0 ((l.take 1).map Vx.id).length)) 1 (.v (.fn 43 []))),(upd Sx.h0 5 (some (.arr false 34 2 (rowsBy ID.c ((l.take 1).map Vx.id)))))⟩ : St)=some (.exit 0,(⟨(upd Sx.e0 5 (.s 5 0 (l.map Vx.id).length)),(upd Sx.h0 5 (some (.arr false 34 2 (rowsBy ID.c (l.map Vx.id)))))⟩ : St)):=by
  have hle:=hl.le
  have key:=loop_to (C:=cs F) (lo:=0) (b:=f42_b1) (fun i => (⟨(upd (upd (upd (upd (upd Sx.e0 10 (.v (.int .i64 (((i+1 : Nat) : Int))))) 9 (.v (.int .i64 ((l.length : Int))))) 8 (.v (.sl .shared 5 (rowsBy Vx.c l)))) 5 (.s 5 0 ((l.take (i+1)).map Vx.id).length)) 1 (.v (.fn 43 []))),(upd Sx.h0 5 (some (.arr false 34 2 (rowsBy ID.c ((l.take (i+1)).map Vx.id)))))⟩ : St)) (l.length - 1) (r:=(.exit 0,(⟨(upd Sx.e0 5 (.s 5 0 (l.map Vx.id).length)),(upd Sx.h0 5 (some (.arr false 34 2 (rowsBy ID.c (l.map Vx.id)))))⟩ : St))) ?_ ?_ (by simp)
  · exact key
  · intro i hi
    have h1 : i+1 < l.length:=by omega
    have h1z : ((i+1 : Nat) : Int) < (l.length : Int):=by omega
    have hs : (l.take (i+1+1)).map Vx.id=(l.take (i+1)).map Vx.id++[l[i+1].id]:=by rw [List.take_succ_eq_append_getElem h1,List.map_append]; rfl
    have hml : ((l.take (i+1)).map Vx.id).length≤i+1:=by rw [List.length_map,List.length_take]; omega
    have h5 : (((l.take (i+1)).map Vx.id).length+1) * 16≤140737488355328:=by omega
    rw [hs]
    have e2 : ((l.take (i+1)).map Vx.id++[l[i+1].id]).length=((l.take (i+1)).map Vx.id).length+1:=by rw [List.length_append]; rfl
    rw [e2]
    generalize (l.take (i+1)).map Vx.id=m at *
    have e3 : rowsBy ID.c m++[[.int .i64 l[i+1].id.s,.int .i64 l[i+1].id.n]]=rowsBy ID.c (m++[l[i+1].id]):=rowsBy_snoc ID.c m l[i+1].id
    have hv:=i_vertexID l[i+1]
    simp only [f42_b1,dec_lt h1,h1z,rowsBy_get Vx.c h1,Vx.c,hv,h5,e3,wrap_succ h1 (show l.length≤9223372036854775807 by omega),List.take_length,go_sem,seval]
  · rw [show l.length - 1 + 1 = l.length by omega, List.take_length]
    simp only [f42_b1,dec_ge (Nat.le_refl l.length),go_sem,seval]
theorem c_named_Vertex (l : List Vx) (hl : Fits l) : call F 42 [.sl .shared 5 (rowsBy Vx.c l),.fn 43 []]=some (.sl (.own 34) 2 (rowsBy ID.c (l.map Vx.id))):=by
  by_cases hne : l=[]
  · subst hne
    have l1 : E (cs F) 0 f42_l1 (⟨(upd (upd (upd (upd (upd Sx.e0 10 (.v (.int .i64 (0)))) 9 (.v (.int .i64 (0)))) 8 (.v (.sl .shared 5 []))) 5 (.v (.sl (.tight 34) 2 []))) 1 (.v (.fn 43 []))),Sx.h0⟩ : St)=some (.exit 0,(⟨(upd Sx.e0 5 (.v (.sl (.tight 34) 2 []))),(upd Sx.h0 5 (none))⟩ : St)):=by
      rw [f42_l1_eq]
      simp only [f42_b1,go_sem,seval]
    show call F 42 [.sl .shared 5 [],.fn 43 []]=some (.sl (.own 34) 2 [])
    rw [call_code F (show F 42=some (.code f42) from rfl)]
    simp only [f42,l1,go_sem,seval]
  · have hpos : 0 < l.length := List.length_pos_iff.2 hne
    have key:=c_named_Vertex_more l hl hpos
    have l1 : E (cs F) 0 f42_l1 (⟨(upd (upd (upd (upd (upd Sx.e0 10 (.v (.int .i64 (0)))) 9 (.v (.int .i64 ((l.length : Int))))) 8 (.v (.sl .shared 5 (rowsBy Vx.c l)))) 5 (.v (.sl (.tight 34) 2 []))) 1 (.v (.fn 43 []))),Sx.h0⟩ : St)=some (.exit 0,(⟨(upd Sx.e0 5 (.s 5 0 (l.map Vx.id).length)),(upd Sx.h0 5 (some (.arr false 34 2 (rowsBy ID.c (l.map Vx.id)))))⟩ : St)):=by
      rw [f42_l1_eq]
      have z1 : decide ((0 : Int) < (l.length : Int))=true:=decide_eq_true (by omega)
      have z2 : (0 : Int) < (l.length : Int):=by omega
      have hv:=i_vertexID l[0]
      have e1 : (l.take 1).map Vx.id=[l[0].id]:=by rw [List.take_succ_eq_append_getElem hpos]; simp
      rw [e1] at key
      simp only [List.length_cons,List.length_nil,rowsBy_cons,rowsBy_nil,ID.c] at key
      simp only [f42_b1,z1,z2,rowsBy_get Vx.c hpos,Vx.c,hv,show IntKind.i64.wrap 1=1 from rfl,go_sem,seval]
      exact key
    rw [call_code F (show F 42=some (.code f42) from rfl)]
    simp only [f42,l1,go_sem,seval]
theorem c_named_Edge_more (l : List Ed) (hl : Fits l) (hne : 0 < l.length) : E (cs F) 0 f44_l1 (⟨(upd (upd (upd (upd (upd Sx.e0 10 (.v (.int .i64 (1)))) 9 (.v (.int .i64 ((l.length : Int))))) 8 (.v (.sl .shared 4 (rowsBy Ed.c l)))) 5 (.s 5 0 ((l.take 1).map Ed.id).length)) 1 (.v (.fn 45 []))),(upd Sx.h0 5 (some (.arr false 34 2 (rowsBy ID.c ((l.take 1).map Ed.id)))))⟩ : St)=some (.exit 0,(⟨(upd Sx.e0 5 (.s 5 0 (l.map Ed.id).length)),(upd Sx.h0 5 (some (.arr false 34 2 (rowsBy ID.c (l.map Ed.id)))))⟩ : St)):=by
  have hle:=hl.le
  have key:=loop_to (C:=cs F) (lo:=0) (b:=f44_b1) (fun i => (⟨(upd (upd (upd (upd (upd Sx.e0 10 (.v (.int .i64 (((i+1 : Nat) : Int))))) 9 (.v (.int .i64 ((l.length : Int))))) 8 (.v (.sl .shared 4 (rowsBy Ed.c l)))) 5 (.s 5 0 ((l.take (i+1)).map Ed.id).length)) 1 (.v (.fn 45 []))),(upd Sx.h0 5 (some (.arr false 34 2 (rowsBy ID.c ((l.take (i+1)).map Ed.id)))))⟩ : St)) (l.length - 1) (r:=(.exit 0,(⟨(upd Sx.e0 5 (.s 5 0 (l.map Ed.id).length)),(upd Sx.h0 5 (some (.arr false 34 2 (rowsBy ID.c (l.map Ed.id)))))⟩ : St))) ?_ ?_ (by simp)
  · exact key
  · intro i hi
    have h1 : i+1 < l.length:=by omega
    have h1z : ((i+1 : Nat) : Int) < (l.length : Int):=by omega
    have hs : (l.take (i+1+1)).map Ed.id=(l.take (i+1)).map Ed.id++[l[i+1].id]:=by rw [List.take_succ_eq_append_getElem h1,List.map_append]; rfl
    have hml : ((l.take (i+1)).map Ed.id).length≤i+1:=by rw [List.length_map,List.length_take]; omega
    have h5 : (((l.take (i+1)).map Ed.id).length+1) * 16≤140737488355328:=by omega
    rw [hs]
    have e2 : ((l.take (i+1)).map Ed.id++[l[i+1].id]).length=((l.take (i+1)).map Ed.id).length+1:=by rw [List.length_append]; rfl
    rw [e2]
    generalize (l.take (i+1)).map Ed.id=m at *
    have e3 : rowsBy ID.c m++[[.int .i64 l[i+1].id.s,.int .i64 l[i+1].id.n]]=rowsBy ID.c (m++[l[i+1].id]):=rowsBy_snoc ID.c m l[i+1].id
    have hv:=i_edgeID l[i+1]
    simp only [f44_b1,dec_lt h1,h1z,rowsBy_get Ed.c h1,Ed.c,hv,h5,e3,wrap_succ h1 (show l.length≤9223372036854775807 by omega),List.take_length,go_sem,seval]
  · rw [show l.length - 1 + 1 = l.length by omega, List.take_length]
    simp only [f44_b1,dec_ge (Nat.le_refl l.length),go_sem,seval]
theorem c_named_Edge (l : List Ed) (hl : Fits l) : call F 44 [.sl .shared 4 (rowsBy Ed.c l),.fn 45 []]=some (.sl (.own 34) 2 (rowsBy ID.c (l.map Ed.id))):=by
  by_cases hne : l=[]
  · subst hne
    have l1 : E (cs F) 0 f44_l1 (⟨(upd (upd (upd (upd (upd Sx.e0 10 (.v (.int .i64 (0)))) 9 (.v (.int .i64 (0)))) 8 (.v (.sl .shared 4 []))) 5 (.v (.sl (.tight 34) 2 []))) 1 (.v (.fn 45 []))),Sx.h0⟩ : St)=some (.exit 0,(⟨(upd Sx.e0 5 (.v (.sl (.tight 34) 2 []))),(upd Sx.h0 5 (none))⟩ : St)):=by
      rw [f44_l1_eq]
      simp only [f44_b1,go_sem,seval]
    show call F 44 [.sl .shared 4 [],.fn 45 []]=some (.sl (.own 34) 2 [])
    rw [call_code F (show F 44=some (.code f44) from rfl)]
    simp only [f44,l1,go_sem,seval]
  · have hpos : 0 < l.length := List.length_pos_iff.2 hne
    have key:=c_named_Edge_more l hl hpos
    have l1 : E (cs F) 0 f44_l1 (⟨(upd (upd (upd (upd (upd Sx.e0 10 (.v (.int .i64 (0)))) 9 (.v (.int .i64 ((l.length : Int))))) 8 (.v (.sl .shared 4 (rowsBy Ed.c l)))) 5 (.v (.sl (.tight 34) 2 []))) 1 (.v (.fn 45 []))),Sx.h0⟩ : St)=some (.exit 0,(⟨(upd Sx.e0 5 (.s 5 0 (l.map Ed.id).length)),(upd Sx.h0 5 (some (.arr false 34 2 (rowsBy ID.c (l.map Ed.id)))))⟩ : St)):=by
      rw [f44_l1_eq]
      have z1 : decide ((0 : Int) < (l.length : Int))=true:=decide_eq_true (by omega)
      have z2 : (0 : Int) < (l.length : Int):=by omega
      have hv:=i_edgeID l[0]
      have e1 : (l.take 1).map Ed.id=[l[0].id]:=by rw [List.take_succ_eq_append_getElem hpos]; simp
      rw [e1] at key
      simp only [List.length_cons,List.length_nil,rowsBy_cons,rowsBy_nil,ID.c] at key
      simp only [f44_b1,z1,z2,rowsBy_get Ed.c hpos,Ed.c,hv,show IntKind.i64.wrap 1=1 from rfl,go_sem,seval]
      exact key
    rw [call_code F (show F 44=some (.code f44) from rfl)]
    simp only [f44,l1,go_sem,seval]
def edBy (l : List Ed) (x : ID) : Option Ed:=firstBy (fun v => decide (v.id=x)) l
def timesN (l : List Vx) (x : Dart) : Nat:=(l.map fun v => v.ring.count x).sum
theorem i_IndexFunc_Vx (l : List Vx) (f : FuncId) (g : FuncId) (hl : Fits l) (p : Vx→Bool) (hp0 : ∀ v,v∈l→call F f (.agg [.int .i64 v.id.s,.int .i64 v.id.n,.sl .shared 3 (rowsBy Dart.c v.ring),.str v.label,.int .i64 v.attr] :: [.pc [.fn g []]])=some (.bool (p v))) : call F 81 [.sl .shared 5 (rowsBy Vx.c l),.fn f [.pc [.fn g []]]]=some (.int .i64 (if l.findIdx p=l.length then -1 else ((l.findIdx p : Nat) : Int))):=by
  have hle : (l).length≤5864062014634:=hl.le
  have hw : (l).length≤9223372036854775807:=Nat.le_trans hle (by decide)
  have S : ∀ n,n≤(l).length→(∀ i,i < n→∀ hi : i < (l).length,p (l)[i]=false)→∀ r,E (cs F) 0 f81_b1 (⟨(upd (upd (upd (upd Sx.e0 8 (.v (.int .i64 ((n : Int))))) 7 (.v (.int .i64 ((l.length : Int))))) 1 (.v (.fn f [.pc [.fn g []]]))) 0 (.v (.sl .shared 5 (rowsBy Vx.c l)))),Sx.h0⟩ : St)=some r→r.1≠.norm →
      E (cs F) 0 f81_l1 (⟨(upd (upd (upd (upd Sx.e0 8 (.v (.int .i64 (0)))) 7 (.v (.int .i64 ((l.length : Int))))) 1 (.v (.fn f [.pc [.fn g []]]))) 0 (.v (.sl .shared 5 (rowsBy Vx.c l)))),Sx.h0⟩ : St)=some r:=by
    intro n hn hno r hf hrr
    refine loop_to (b:=f81_b1) (fun i => (⟨(upd (upd (upd (upd Sx.e0 8 (.v (.int .i64 ((i : Int))))) 7 (.v (.int .i64 ((l.length : Int))))) 1 (.v (.fn f [.pc [.fn g []]]))) 0 (.v (.sl .shared 5 (rowsBy Vx.c l)))),Sx.h0⟩ : St)) n ?_ hf hrr
    intro i hi
    have h1 : i < (l).length:=Nat.lt_of_lt_of_le hi hn
    have h1z : (i : Int) < ((l).length : Int):=Int.ofNat_lt.2 h1
    have hne:=hno i hi h1
    have hv:=hp0 l[i] (List.getElem_mem h1)
    rw [hne] at hv
    simp only [f81_b1,dec_lt h1,h1z,rowsBy_get Vx.c h1,Vx.c,hv,wrap_succ h1 hw,go_sem,seval]
  have S:=S ((l).findIdx p) List.findIdx_le_length (fun i h1 h2 => findIdx_not h1 h2)
  rcases findIdx_cases p (l) with h0 | ⟨hlt,hp⟩
  · rw [h0] at S
    have := S _ (by simp only [f81_b1, dec_ge (Nat.le_refl (l).length), go_sem, seval]
                    rfl) (by simp)
    rw [if_pos h0]
    rw [call_code F (show F 81=some (.code f81) from rfl)]
    simp only [f81,this,go_sem,seval]
  · rw [if_neg (show ¬ l.findIdx p = l.length by omega)]
    generalize (l).findIdx p=n at *
    have hltz : (n : Int) < ((l).length : Int):=Int.ofNat_lt.2 hlt
    have hv:=hp0 l[n] (List.getElem_mem hlt)
    rw [hp] at hv
    have := S _ (by simp only [f81_b1, dec_lt hlt, hltz, rowsBy_get Vx.c hlt, Vx.c, hv, go_sem, seval]
                    rfl) (by simp)
    rw [call_code F (show F 81=some (.code f81) from rfl)]
    simp only [f81,this,go_sem,seval]
theorem i_ContainsFunc_Vx (l : List Vx) (f : FuncId) (g : FuncId) (hl : Fits l) (p : Vx→Bool) (hp0 : ∀ v,v∈l→call F f (.agg [.int .i64 v.id.s,.int .i64 v.id.n,.sl .shared 3 (rowsBy Dart.c v.ring),.str v.label,.int .i64 v.attr] :: [.pc [.fn g []]])=some (.bool (p v))) : call F 63 [.sl .shared 5 (rowsBy Vx.c l),.fn f [.pc [.fn g []]]]=some (.bool (l.any p)):=by
  have ix:=i_IndexFunc_Vx l f g hl p hp0
  rcases findIdx_cases p l with h0 | ⟨hlt,hp⟩
  · rw [if_pos h0] at ix
    rw [show l.any p=false by
      rw [List.any_eq_false]
      intro v hv
      obtain ⟨i,hi,rfl⟩:=List.mem_iff_getElem.1 hv
      rw [findIdx_not (p:=p) (by omega) hi]; simp]
    rw [call_code F (show F 63=some (.code f63) from rfl)]
    simp only [f63,ix,go_sem,seval]
  · rw [if_neg (show ¬ l.findIdx p = l.length by omega)] at ix
    rw [show l.any p=true by rw [List.any_eq_true]; exact ⟨_,List.getElem_mem hlt,hp⟩]
    have hq : decide (((l.findIdx p : Nat) : Int) ≥ 0)=true:=by simp
    generalize l.findIdx p=n at *
    rw [call_code F (show F 63=some (.code f63) from rfl)]
    simp only [f63,ix,hq,go_sem,seval]
theorem i_IndexFunc_Ed (l : List Ed) (f : FuncId) (g : FuncId) (hl : Fits l) (p : Ed→Bool) (hp0 : ∀ v,v∈l→call F f (.agg [.int .i64 v.id.s,.int .i64 v.id.n,.str v.label,.int .i64 v.attr] :: [.pc [.fn g []]])=some (.bool (p v))) : call F 82 [.sl .shared 4 (rowsBy Ed.c l),.fn f [.pc [.fn g []]]]=some (.int .i64 (if l.findIdx p=l.length then -1 else ((l.findIdx p : Nat) : Int))):=by
  have hle : (l).length≤5864062014634:=hl.le
  have hw : (l).length≤9223372036854775807:=Nat.le_trans hle (by decide)
  have S : ∀ n,n≤(l).length→(∀ i,i < n→∀ hi : i < (l).length,p (l)[i]=false)→∀ r,E (cs F) 0 f82_b1 (⟨(upd (upd (upd (upd Sx.e0 8 (.v (.int .i64 ((n : Int))))) 7 (.v (.int .i64 ((l.length : Int))))) 1 (.v (.fn f [.pc [.fn g []]]))) 0 (.v (.sl .shared 4 (rowsBy Ed.c l)))),Sx.h0⟩ : St)=some r→r.1≠.norm →
      E (cs F) 0 f82_l1 (⟨(upd (upd (upd (upd Sx.e0 8 (.v (.int .i64 (0)))) 7 (.v (.int .i64 ((l.length : Int))))) 1 (.v (.fn f [.pc [.fn g []]]))) 0 (.v (.sl .shared 4 (rowsBy Ed.c l)))),Sx.h0⟩ : St)=some r:=by
    intro n hn hno r hf hrr
    refine loop_to (b:=f82_b1) (fun i => (⟨(upd (upd (upd (upd Sx.e0 8 (.v (.int .i64 ((i : Int))))) 7 (.v (.int .i64 ((l.length : Int))))) 1 (.v (.fn f [.pc [.fn g []]]))) 0 (.v (.sl .shared 4 (rowsBy Ed.c l)))),Sx.h0⟩ : St)) n ?_ hf hrr
    intro i hi
    have h1 : i < (l).length:=Nat.lt_of_lt_of_le hi hn
    have h1z : (i : Int) < ((l).length : Int):=Int.ofNat_lt.2 h1
    have hne:=hno i hi h1
    have hv:=hp0 l[i] (List.getElem_mem h1)
    rw [hne] at hv
    simp only [f82_b1,dec_lt h1,h1z,rowsBy_get Ed.c h1,Ed.c,hv,wrap_succ h1 hw,go_sem,seval]
  have S:=S ((l).findIdx p) List.findIdx_le_length (fun i h1 h2 => findIdx_not h1 h2)
  rcases findIdx_cases p (l) with h0 | ⟨hlt,hp⟩
  · rw [h0] at S
    have := S _ (by simp only [f82_b1, dec_ge (Nat.le_refl (l).length), go_sem, seval]
                    rfl) (by simp)
    rw [if_pos h0]
    rw [call_code F (show F 82=some (.code f82) from rfl)]
    simp only [f82,this,go_sem,seval]
  · rw [if_neg (show ¬ l.findIdx p = l.length by omega)]
    generalize (l).findIdx p=n at *
    have hltz : (n : Int) < ((l).length : Int):=Int.ofNat_lt.2 hlt
    have hv:=hp0 l[n] (List.getElem_mem hlt)
    rw [hp] at hv
    have := S _ (by simp only [f82_b1, dec_lt hlt, hltz, rowsBy_get Ed.c hlt, Ed.c, hv, go_sem, seval]
                    rfl) (by simp)
    rw [call_code F (show F 82=some (.code f82) from rfl)]
    simp only [f82,this,go_sem,seval]
theorem i_ContainsFunc_Ed (l : List Ed) (f : FuncId) (g : FuncId) (hl : Fits l) (p : Ed→Bool) (hp0 : ∀ v,v∈l→call F f (.agg [.int .i64 v.id.s,.int .i64 v.id.n,.str v.label,.int .i64 v.attr] :: [.pc [.fn g []]])=some (.bool (p v))) : call F 65 [.sl .shared 4 (rowsBy Ed.c l),.fn f [.pc [.fn g []]]]=some (.bool (l.any p)):=by
  have ix:=i_IndexFunc_Ed l f g hl p hp0
  rcases findIdx_cases p l with h0 | ⟨hlt,hp⟩
  · rw [if_pos h0] at ix
    rw [show l.any p=false by
      rw [List.any_eq_false]
      intro v hv
      obtain ⟨i,hi,rfl⟩:=List.mem_iff_getElem.1 hv
      rw [findIdx_not (p:=p) (by omega) hi]; simp]
    rw [call_code F (show F 65=some (.code f65) from rfl)]
    simp only [f65,ix,go_sem,seval]
  · rw [if_neg (show ¬ l.findIdx p = l.length by omega)] at ix
    rw [show l.any p=true by rw [List.any_eq_true]; exact ⟨_,List.getElem_mem hlt,hp⟩]
    have hq : decide (((l.findIdx p : Nat) : Int) ≥ 0)=true:=by simp
    generalize l.findIdx p=n at *
    rw [call_code F (show F 65=some (.code f65) from rfl)]
    simp only [f65,ix,hq,go_sem,seval]
theorem i_some1 (v : Vx) (g : FuncId) (b : Bool) (hg : call F g [.str v.label,.int .i64 v.attr]=some (.bool b)) : call F 64 [.agg [.int .i64 v.id.s,.int .i64 v.id.n,.sl .shared 3 (rowsBy Dart.c v.ring),.str v.label,.int .i64 v.attr],.pc [.fn g []]]=some (.bool b):=by
  rw [call_code F (show F 64=some (.code f64) from rfl)]
  simp only [f64,hg,go_sem,seval]
theorem i_some2 (v : Ed) (g : FuncId) (b : Bool) (hg : call F g [.str v.label,.int .i64 v.attr]=some (.bool b)) : call F 66 [.agg [.int .i64 v.id.s,.int .i64 v.id.n,.str v.label,.int .i64 v.attr],.pc [.fn g []]]=some (.bool b):=by
  rw [call_code F (show F 66=some (.code f66) from rfl)]
  simp only [f66,hg,go_sem,seval]
theorem i_some (vs : List Vx) (es : List Ed) (hv : Fits vs) (he : Fits es) (g : FuncId) (q : ByteArray→Int→Bool) (hg : ∀ s n,call F g [.str s,.int .i64 n]=some (.bool (q s n))) :
    call F 47 [.agg [.sl .shared 5 (rowsBy Vx.c vs),.sl .shared 4 (rowsBy Ed.c es)],.fn g []]=some (.bool (vs.any (fun v => q v.label v.attr) || es.any (fun v => q v.label v.attr))):=by
  have c1:=i_ContainsFunc_Vx vs 64 g hv (fun v => q v.label v.attr) (fun v _ => i_some1 v g _ (hg _ _))
  have c2:=i_ContainsFunc_Ed es 66 g he (fun v => q v.label v.attr) (fun v _ => i_some2 v g _ (hg _ _))
  cases hb : vs.any (fun v => q v.label v.attr) with
  | true =>
    rw [hb] at c1
    rw [Bool.true_or]
    rw [call_code F (show F 47=some (.code f47) from rfl)]
    simp only [f47,c1,c2,go_sem,seval]
  | false =>
    rw [hb] at c1
    rw [Bool.false_or]
    rw [call_code F (show F 47=some (.code f47) from rfl)]
    simp only [f47,c1,c2,go_sem,seval]
theorem c_MayLabel (s : ByteArray) : call F 49 [.str s]=some (.bool (mayB s && decide ((s.size : Int)≤16))):=by
  rw [call_ext F (show F 49=some (.ext mayG) from rfl)]; rfl
def mayLab (s : ByteArray) : Bool:=mayB s && decide ((s.size : Int)≤16)
def mayAtt (n : Int) : Bool:=decide (n ≥ -1099511627776) && decide (n≤1099511627776)
theorem i_Form1 (s : ByteArray) (n : Int) : call F 48 [.str s,.int .i64 n]=some (.bool (!mayLab s)):=by
  have c:=c_MayLabel s
  rw [show (mayB s && decide ((s.size : Int)≤16))=mayLab s from rfl] at c
  generalize mayLab s=b at *
  rw [call_code F (show F 48=some (.code f48) from rfl)]
  simp only [f48,c,go_sem,seval]
theorem i_Form2 (s : ByteArray) (n : Int) : call F 50 [.str s,.int .i64 n]=some (.bool (!mayAtt n)):=by
  have c:=c_MayAttr n
  rw [show (decide (n ≥ -1099511627776) && decide (n≤1099511627776))=mayAtt n from rfl] at c
  generalize mayAtt n=b at *
  rw [call_code F (show F 50=some (.code f50) from rfl)]
  simp only [f50,c,go_sem,seval]
def badDart (es : List Ed) (x : Dart) : Bool:=(edBy es x.e).isNone || (decide (x.d < 0) || decide (x.d > 1))
def badVx (es : List Ed) (v : Vx) : Bool:=!decide (v.ring=turn v.ring) || v.ring.any (badDart es)
def badEd (l : List Vx) (e : Ed) : Bool:=decide (¬ timesN l ⟨e.id,0⟩=1) || decide (¬ timesN l ⟨e.id,1⟩=1)
def ringsB (l : List Vx) (es : List Ed) : Bool:=!(l.any (badVx es) || es.any (badEd l))
end Go.Proofs.Ytcecojdeljbjoaa.Sx
namespace Go.Proofs.Ytcecojdeljbjoaa.Sx
open Go
def mapD (s : List Dart) : List (List TV × List TV):=s.map fun d => (Dart.c d,[TV.bool true])
def keyL (x : Dart) : List LV:=[LV.v (TV.int IntKind.i64 x.e.s),LV.v (TV.int IntKind.i64 x.e.n),LV.v (TV.int IntKind.i64 x.d)]
theorem eqc (x d : Dart) : eqCells [Lk.i,Lk.i,Lk.i] (keyL x) (liftV (Dart.c d))=some (decide (x=d)):=by
  unfold keyL
  simp only [Dart.c,go_sem,seval]
theorem find_mapD (x : Dart) : ∀ s : List Dart,findM [Lk.i,Lk.i,Lk.i] (keyL x) (mapD s)=some (if x∈s then some [TV.bool true] else none)
  | [] => rfl
  | d :: s => by
    show findM [Lk.i,Lk.i,Lk.i] (keyL x) ((Dart.c d,[TV.bool true]) :: mapD s)=_
    rw [findM,eqc]
    by_cases h : x=d
    · rw [decide_eq_true h,if_pos (by simp [h])]
    · rw [decide_eq_false h]
      simp only []
      rw [find_mapD x s]
      by_cases h2 : x∈s
      · rw [if_pos h2,if_pos (by simp [h2])]
      · rw [if_neg h2,if_neg (by simp [h,h2])]
theorem upd_mapD (x : Dart) : ∀ s : List Dart,updM [Lk.i,Lk.i,Lk.i] (keyL x) (Dart.c x) [TV.bool true] (mapD s)=some (mapD (if x∈s then s else s++[x]))
  | [] => rfl
  | d :: s => by
    show updM [Lk.i,Lk.i,Lk.i] (keyL x) (Dart.c x) [TV.bool true] ((Dart.c d,[TV.bool true]) :: mapD s)=_
    rw [updM,eqc]
    by_cases h : x=d
    · rw [decide_eq_true h, if_pos (by simp [h])]
      subst h; rfl
    · rw [decide_eq_false h]
      simp only []
      rw [upd_mapD x s]
      by_cases h2 : x∈s
      · rw [if_pos h2,if_pos (by simp [h2])]; rfl
      · rw [if_neg h2,if_neg (by simp [h,h2])]; rfl
theorem del_mapD (x : Dart) : ∀ s : List Dart,delM [Lk.i,Lk.i,Lk.i] (keyL x) (mapD s)=some (mapD (s.erase x))
  | [] => rfl
  | d :: s => by
    show delM [Lk.i,Lk.i,Lk.i] (keyL x) ((Dart.c d,[TV.bool true]) :: mapD s)=_
    rw [delM,eqc]
    by_cases h : x=d
    · rw [decide_eq_true h]
      subst h
      rw [List.erase_cons_head]
    · rw [decide_eq_false h]
      simp only []
      rw [del_mapD x s,List.erase_cons_tail (by simpa using fun e => h e.symm)]; rfl
def addD (s : List Dart) (x : Dart) : List Dart:=if x∈s then s else s++[x]
def leftE (es : List Ed) : List Dart:=es.foldl (fun s e => addD (addD s ⟨e.id,0⟩) ⟨e.id,1⟩) []
theorem leftE_succ {es : List Ed} {i : Nat} (h : i < es.length) : leftE (es.take (i+1))=addD (addD (leftE (es.take i)) ⟨es[i].id,0⟩) ⟨es[i].id,1⟩:=by
  unfold leftE; rw [List.take_succ_eq_append_getElem h,List.foldl_append]; rfl
theorem drings_l1 (l : List Vx) (es : List Ed) (he : Fits es) : E (cs F) 0 f46_l1 (⟨(upd (upd (upd (upd (upd Sx.e0 14 (.v (.int .i64 (0)))) 13 (.v (.int .i64 ((es.length : Int))))) 12 (.v (.sl .shared 4 (rowsBy Ed.c es)))) 3 (.m 3)) 1 (.p 1 0)),(upd (upd Sx.h0 3 (some (.map false true false []))) 1 (some (.var false [.v (.sl .shared 5 (rowsBy Vx.c l)),.v (.sl .shared 4 (rowsBy Ed.c es))])))⟩ : St) =
    some (.exit 0,(⟨(upd (upd Sx.e0 3 (.m 3)) 1 (.p 1 0)),(upd (upd Sx.h0 3 (some (.map false true false (mapD (leftE es))))) 1 (some (.var false [.v (.sl .shared 5 (rowsBy Vx.c l)),.v (.sl .shared 4 (rowsBy Ed.c es))])))⟩ : St)):=by
  have hle:=he.le
  have key:=loop_to (C:=cs F) (lo:=0) (b:=f46_b1) (fun i => (⟨(upd (upd (upd (upd (upd Sx.e0 14 (.v (.int .i64 ((i : Int))))) 13 (.v (.int .i64 ((es.length : Int))))) 12 (.v (.sl .shared 4 (rowsBy Ed.c es)))) 3 (.m 3)) 1 (.p 1 0)),(upd (upd Sx.h0 3 (some (.map false true false (mapD (leftE (es.take i)))))) 1 (some (.var false [.v (.sl .shared 5 (rowsBy Vx.c l)),.v (.sl .shared 4 (rowsBy Ed.c es))])))⟩ : St)) es.length (r:=(.exit 0,(⟨(upd (upd Sx.e0 3 (.m 3)) 1 (.p 1 0)),(upd (upd Sx.h0 3 (some (.map false true false (mapD (leftE es))))) 1 (some (.var false [.v (.sl .shared 5 (rowsBy Vx.c l)),.v (.sl .shared 4 (rowsBy Ed.c es))])))⟩ : St))) ?_ ?_ (by simp)
  · exact key
  · intro i hi
    have h1z : (i : Int) < (es.length : Int):=by omega
    rw [leftE_succ hi]
    generalize leftE (es.take i)=s at *
    have u1:=upd_mapD ⟨es[i].id,0⟩ s
    rw [show (if (⟨es[i].id,0⟩ : Dart)∈s then s else s++[⟨es[i].id,0⟩])=addD s ⟨es[i].id,0⟩ from rfl] at u1
    have u2:=upd_mapD ⟨es[i].id,1⟩ (addD s ⟨es[i].id,0⟩)
    rw [show (if (⟨es[i].id,1⟩ : Dart)∈addD s ⟨es[i].id,0⟩ then addD s ⟨es[i].id,0⟩ else addD s ⟨es[i].id,0⟩++[⟨es[i].id,1⟩])=addD (addD s ⟨es[i].id,0⟩) ⟨es[i].id,1⟩ from rfl] at u2
    generalize addD s ⟨es[i].id,0⟩=s2 at *
    generalize addD s2 ⟨es[i].id,1⟩=s3 at *
    simp only [keyL,Dart.c] at u1 u2
    simp only [f46_b1,dec_lt hi,h1z,rowsBy_get Ed.c hi,Ed.c,u1,u2,wrap_succ hi (show es.length≤9223372036854775807 by omega),go_sem,seval]
  · rw [List.take_length]
    simp only [f46_b1,dec_ge (Nat.le_refl es.length),go_sem,seval]
def eat : List Dart→List Dart→Option (List Dart)
  | s,[] => some s
  | s,x :: r => if x∈s then eat (s.erase x) r else none
theorem drings_l3 (l : List Vx) (i : Nat) (r : List Dart) (hr : Fits r) : ∀ (n k : Nat) (s : List Dart),k+n=r.length→E (cs F) 0 f46_l3 (⟨(upd (upd (upd (upd (upd (upd (upd Sx.e0 44 (.v (.int .i64 ((k : Int))))) 43 (.v (.int .i64 ((r.length : Int))))) 42 (.v (.sl .shared 3 (rowsBy Dart.c r)))) 30 (.v (.int .i64 ((i : Int))))) 29 (.v (.int .i64 ((l.length : Int))))) 28 (.v (.sl .shared 5 (rowsBy Vx.c l)))) 3 (.m 3)),(upd Sx.h0 3 (some (.map false true false (mapD s))))⟩ : St) =
    some (match eat s (r.drop k) with
      | some s' => (.exit 4,(⟨(upd (upd (upd (upd Sx.e0 30 (.v (.int .i64 ((i : Int))))) 29 (.v (.int .i64 ((l.length : Int))))) 28 (.v (.sl .shared 5 (rowsBy Vx.c l)))) 3 (.m 3)),(upd Sx.h0 3 (some (.map false true false (mapD s'))))⟩ : St))
      | none => (.ret,(⟨(upd Sx.e0 2 (.v (.bool false))),Sx.h0⟩ : St))):=by
  have hle:=hr.le
  intro n
  induction n with
  | zero =>
    intro k s hk
    have e : r.drop k=[]:=List.drop_eq_nil_of_le (by omega)
    rw [e]
    simp only [eat]
    rw [f46_l3_eq]
    simp only [f46_b3,dec_ge (show r.length≤k by omega),go_sem,seval]
  | succ n ih =>
    intro k s hk
    have h1 : k < r.length:=by omega
    have h1z : (k : Int) < (r.length : Int):=by omega
    rw [List.drop_eq_getElem_cons h1]
    simp only [eat]
    have f1:=find_mapD r[k] s
    have d1:=del_mapD r[k] s
    simp only [keyL] at f1 d1
    rw [f46_l3_eq]
    by_cases hm : r[k]∈s
    · rw [if_pos hm] at f1
      rw [if_pos hm]
      have ih:=ih (k+1) (s.erase r[k]) (by omega)
      rw [← ih]
      generalize s.erase r[k]=s2 at *
      simp only [f46_b3,dec_lt h1,h1z,rowsBy_get Dart.c h1,Dart.c,f1,d1,wrap_succ h1 (show r.length≤9223372036854775807 by omega),go_sem,seval]
    · rw [if_neg hm] at f1
      rw [if_neg hm]
      simp only [f46_b3,dec_lt h1,h1z,rowsBy_get Dart.c h1,Dart.c,f1,go_sem,seval]
def eatV : List Dart→List Vx→Option (List Dart)
  | s,[] => some s
  | s,v :: l => if v.ring=turn v.ring then (match eat s v.ring with | some s' => eatV s' l | none => none) else none
theorem drings_l2 (l : List Vx) (hl : Fits l) (hr : FitsR l) : ∀ (n k : Nat) (s : List Dart),k+n=l.length→E (cs F) 0 f46_l2 (⟨(upd (upd (upd (upd Sx.e0 30 (.v (.int .i64 ((k : Int))))) 29 (.v (.int .i64 ((l.length : Int))))) 28 (.v (.sl .shared 5 (rowsBy Vx.c l)))) 3 (.m 3)),(upd Sx.h0 3 (some (.map false true false (mapD s))))⟩ : St) =
    some (match eatV s (l.drop k) with
      | some s' => (.exit 2,(⟨(upd Sx.e0 3 (.m 3)),(upd Sx.h0 3 (some (.map false true false (mapD s'))))⟩ : St))
      | none => (.ret,(⟨(upd Sx.e0 2 (.v (.bool false))),Sx.h0⟩ : St))):=by
  have hle:=hl.le
  intro n
  induction n with
  | zero =>
    intro k s hk
    have e : l.drop k=[]:=List.drop_eq_nil_of_le (by omega)
    rw [e]
    simp only [eatV]
    rw [f46_l2_eq]
    simp only [f46_b2,dec_ge (show l.length≤k by omega),go_sem,seval]
  | succ n ih =>
    intro k s hk
    have h1 : k < l.length:=by omega
    have h1z : (k : Int) < (l.length : Int):=by omega
    rw [List.drop_eq_getElem_cons h1]
    simp only [eatV]
    have hf:=hr _ (List.getElem_mem h1)
    have ct:=c_ring_Turn l[k].ring hf
    have ce:=c_Equal_Dart l[k].ring (turn l[k].ring) hf
    have l3:=drings_l3 l k l[k].ring hf l[k].ring.length 0 s (by omega)
    rw [List.drop_zero] at l3
    simp only [nat0] at l3
    rw [f46_l2_eq]
    by_cases g : l[k].ring=turn l[k].ring
    · rw [dec_t g] at ce
      rw [if_pos g]
      generalize turn l[k].ring=u at *
      cases he : eat s l[k].ring with
      | none =>
        rw [he] at l3
        simp only [] at l3 ⊢
        simp only [f46_b2,dec_lt h1,h1z,rowsBy_get Vx.c h1,Vx.c,ct,ce,l3,go_sem,seval]
      | some s2 =>
        rw [he] at l3
        simp only [] at l3 ⊢
        have ih:=ih (k+1) s2 (by omega)
        rw [← ih]
        simp only [f46_b2,dec_lt h1,h1z,rowsBy_get Vx.c h1,Vx.c,ct,ce,l3,wrap_succ h1 (show l.length≤9223372036854775807 by omega),go_sem,seval]
    · rw [dec_f g] at ce
      rw [if_neg g]
      generalize turn l[k].ring=u at *
      simp only [f46_b2,dec_lt h1,h1z,rowsBy_get Vx.c h1,Vx.c,ct,ce,go_sem,seval]
theorem mapD_len (s : List Dart) : (mapD s).length=s.length:=by unfold mapD; simp
def ringsP (l : List Vx) (es : List Ed) : Bool:=match eatV (leftE es) l with
  | some s => decide ((s.length : Int)=0)
  | none => false
theorem i_diagram_rings (l : List Vx) (es : List Ed) (hl : Fits l) (hr : FitsR l) (he : Fits es) : call F 46 [.agg [.sl .shared 5 (rowsBy Vx.c l),.sl .shared 4 (rowsBy Ed.c es)]]=some (.bool (ringsP l es)):=by
  have l1:=drings_l1 l es he
  have l2:=drings_l2 l hl hr l.length 0 (leftE es) (by omega)
  rw [List.drop_zero] at l2
  simp only [nat0] at l2
  unfold ringsP
  generalize leftE es=s at *
  cases hc : eatV s l with
  | none =>
    rw [hc] at l2
    simp only [] at l2
    rw [call_code F (show F 46=some (.code f46) from rfl)]
    simp only [f46,l1,l2,go_sem,seval]
  | some s2 =>
    rw [hc] at l2
    simp only [] at l2
    have hm:=mapD_len s2
    rw [call_code F (show F 46=some (.code f46) from rfl)]
    simp only [f46,l1,l2,hm,go_sem,seval]
end Go.Proofs.Ytcecojdeljbjoaa.Sx
namespace Go.Proofs.Ytcecojdeljbjoaa.Sx
open Go
theorem eat_some : ∀ (r s s' : List Dart),s.Nodup→eat s r=some s'→s'.Nodup∧(∀ x,x∈s'↔x∈s∧x∉r)∧r.Nodup∧∀ x∈r,x∈s
  | [], s, s', hs, h => by
    simp only [eat] at h
    obtain rfl:=Option.some.inj h
    exact ⟨hs,fun x => by simp,by simp,by simp⟩
  | y :: r, s, s', hs, h => by
    simp only [eat] at h
    split at h
    · rename_i hy
      obtain ⟨h1,h2,h3,h4⟩:=eat_some r (s.erase y) s' (hs.erase y) h
      have hmem : ∀ x,x∈s.erase y↔x≠y∧x∈s:=fun x => hs.mem_erase_iff
      refine ⟨h1,fun x => ?_,?_,?_⟩
      · rw [h2, hmem]; simp only [List.mem_cons, not_or]
        constructor
        · rintro ⟨⟨a,b⟩,c⟩; exact ⟨b,a,c⟩
        · rintro ⟨b,a,c⟩; exact ⟨⟨a,b⟩,c⟩
      · rw [List.nodup_cons]
        exact ⟨fun hm => ((hmem y).1 (h4 y hm)).1 rfl,h3⟩
      · intro x hx
        rcases List.mem_cons.1 hx with rfl | hx
        · exact hy
        · exact ((hmem x).1 (h4 x hx)).2
    · cases h
theorem eat_none : ∀ (r s : List Dart),s.Nodup→eat s r=none→¬ (r.Nodup∧∀ x∈r,x∈s)
  | [],s,_,h => by simp [eat] at h
  | y :: r, s, hs, h => by
    simp only [eat] at h
    rintro ⟨h1,h2⟩
    rw [List.nodup_cons] at h1
    rw [if_pos (h2 y (by simp))] at h
    refine eat_none r (s.erase y) (hs.erase y) h ⟨h1.2,fun x hx => ?_⟩
    rw [hs.mem_erase_iff]
    exact ⟨fun e => h1.1 (e ▸ hx),h2 x (by simp [hx])⟩
def turned (l : List Vx) : Prop:=∀ v∈l,v.ring=turn v.ring
theorem eatV_some : ∀ (l : List Vx) (s s' : List Dart),s.Nodup→eatV s l=some s'→s'.Nodup∧(∀ x,x∈s'↔x∈s∧x∉allR l)∧(allR l).Nodup∧(∀ x∈allR l,x∈s)∧turned l
  | [], s, s', hs, h => by
    simp only [eatV] at h
    obtain rfl:=Option.some.inj h
    exact ⟨hs,fun x => by simp [allR],by simp [allR],by simp [allR],fun v hv => by cases hv⟩
  | v :: l, s, s', hs, h => by
    simp only [eatV] at h
    split at h
    · rename_i ht
      split at h
      · rename_i s2 he
        obtain ⟨a1,a2,a3,a4⟩:=eat_some _ _ _ hs he
        obtain ⟨b1,b2,b3,b4,b5⟩:=eatV_some l s2 s' a1 h
        have hall : allR (v :: l)=v.ring++allR l:=by simp [allR]
        rw [hall]
        refine ⟨b1,fun x => ?_,?_,?_,?_⟩
        · rw [b2,a2,List.mem_append,not_or,and_assoc]
        · rw [List.nodup_append]
          exact ⟨a3,b3,fun x hx y hy e => by subst e; exact ((a2 x).1 (b4 x hy)).2 hx⟩
        · intro x hx
          rcases List.mem_append.1 hx with hx | hx
          · exact a4 x hx
          · exact ((a2 x).1 (b4 x hx)).1
        · intro w hw
          rcases List.mem_cons.1 hw with rfl | hw
          · exact ht
          · exact b5 w hw
      · cases h
    · cases h
theorem eatV_none : ∀ (l : List Vx) (s : List Dart),s.Nodup→eatV s l=none→¬ ((allR l).Nodup∧(∀ x∈allR l,x∈s)∧turned l)
  | [],s,_,h => by simp [eatV] at h
  | v :: l, s, hs, h => by
    simp only [eatV] at h
    rintro ⟨h1,h2,h3⟩
    have hall : allR (v :: l)=v.ring++allR l:=by simp [allR]
    rw [hall] at h1 h2
    rw [List.nodup_append] at h1
    rw [if_pos (h3 v (by simp))] at h
    split at h
    · rename_i s2 he
      obtain ⟨a1,a2,a3,a4⟩:=eat_some _ _ _ hs he
      refine eatV_none l s2 a1 h ⟨h1.2.1,fun x hx => ?_,fun w hw => h3 w (by simp [hw])⟩
      rw [a2]
      exact ⟨h2 x (by simp [hx]),fun hv => h1.2.2 x hv x hx rfl⟩
    · rename_i he
      exact eat_none _ _ hs he ⟨h1.1,fun x hx => h2 x (by simp [hx])⟩
theorem addD_mem (s : List Dart) (x y : Dart) : y∈addD s x↔y∈s∨y=x:=by
  unfold addD; split
  · rename_i h
    constructor
    · exact .inl
    · rintro (h1 | rfl)
      · exact h1
      · exact h
  · simp
theorem addD_nodup {s : List Dart} (h : s.Nodup) (x : Dart) : (addD s x).Nodup:=by
  unfold addD; split
  · exact h
  · rename_i hx
    rw [List.nodup_append]
    exact ⟨h,by simp,fun a ha b hb e => by simp at hb; subst hb; subst e; exact hx ha⟩
theorem leftF (es : List Ed) : ∀ s : List Dart,s.Nodup→(es.foldl (fun s e => addD (addD s ⟨e.id,0⟩) ⟨e.id,1⟩) s).Nodup∧∀ x,x∈es.foldl (fun s e => addD (addD s ⟨e.id,0⟩) ⟨e.id,1⟩) s↔x∈s∨∃ e∈es,x=⟨e.id,0⟩∨x=⟨e.id,1⟩:=by
  induction es with
  | nil => intro s h; exact ⟨h,fun x => by simp⟩
  | cons e es ih =>
    intro s h
    rw [List.foldl_cons]
    obtain ⟨h1,h2⟩:=ih _ (addD_nodup (addD_nodup h ⟨e.id,0⟩) ⟨e.id,1⟩)
    refine ⟨h1,fun x => ?_⟩
    rw [h2,addD_mem,addD_mem]
    constructor
    · rintro (((h | h) | h) | ⟨f, hf, h⟩)
      · exact .inl h
      · exact .inr ⟨e,by simp,.inl h⟩
      · exact .inr ⟨e,by simp,.inr h⟩
      · exact .inr ⟨f,by simp [hf],h⟩
    · rintro (h | ⟨f, hf, h⟩)
      · exact .inl (.inl (.inl h))
      · rcases List.mem_cons.1 hf with rfl | hf
        · rcases h with h | h
          · exact .inl (.inl (.inr h))
          · exact .inl (.inr h)
        · exact .inr ⟨f,hf,h⟩
theorem leftE_nodup (es : List Ed) : (leftE es).Nodup:=(leftF es [] (by simp)).1
theorem leftE_mem (es : List Ed) (x : Dart) : x∈leftE es↔∃ e∈es,x=⟨e.id,0⟩∨x=⟨e.id,1⟩:=by
  have:=(leftF es [] (by simp)).2 x
  simpa [leftE] using this
theorem badDart_iff (es : List Ed) (x : Dart) : badDart es x=false↔x∈leftE es:=by
  rw [leftE_mem]
  unfold badDart
  cases hc : edBy es x.e with
  | none =>
    have hno:=firstBy_no hc
    constructor
    · intro h; cases h
    · rintro ⟨e, he, h⟩
      have:=hno e he
      rcases h with rfl | rfl<;>simp at this
  | some e =>
    obtain ⟨h1,h2⟩:=firstBy_mem hc
    have h2' : e.id=x.e:=of_decide_eq_true h2
    constructor
    · intro h
      simp at h
      refine ⟨e,h1,?_⟩
      have : x.d=0∨x.d=1:=by omega
      obtain ⟨xe,xd⟩:=x
      simp only at h2' this
      subst h2'
      rcases this with rfl | rfl
      · left; rfl
      · right; rfl
    · rintro ⟨f,hf,rfl | rfl⟩<;>rfl
theorem timesN_count (l : List Vx) (x : Dart) : timesN l x=(allR l).count x:=by
  induction l with
  | nil => rfl
  | cons v l ih =>
    have e1 : timesN (v :: l) x=v.ring.count x+timesN l x:=by simp [timesN]
    have e2 : allR (v :: l)=v.ring++allR l:=by simp [allR]
    rw [e1,e2,List.count_append,ih]
theorem allR_mem (l : List Vx) (x : Dart) : x∈allR l↔∃ v∈l,x∈v.ring:=by
  unfold allR
  rw [List.mem_flatten]
  constructor
  · rintro ⟨r, hr, hx⟩
    obtain ⟨v,hv,rfl⟩:=List.mem_map.1 hr
    exact ⟨v,hv,hx⟩
  · rintro ⟨v, hv, hx⟩
    exact ⟨_,List.mem_map.2 ⟨v,hv,rfl⟩,hx⟩
theorem count_one {l : List Dart} (h : l.Nodup) {x : Dart} (hx : x∈l) : l.count x=1:=by
  have h1 : l.count x≤1:=List.nodup_iff_count.1 h x
  have h2 : 0 < l.count x:=List.count_pos_iff.2 hx
  omega
theorem ringsB_iff (l : List Vx) (es : List Ed) : ringsB l es=true↔turned l∧(∀ x∈allR l,x∈leftE es)∧∀ x∈leftE es,(allR l).count x=1:=by
  unfold ringsB
  rw [Bool.not_eq_true',Bool.or_eq_false_iff,List.any_eq_false,List.any_eq_false]
  constructor
  · rintro ⟨h1, h2⟩
    refine ⟨fun v hv => ?_,fun x hx => ?_,fun x hx => ?_⟩
    · have := h1 v hv
      unfold badVx at this
      simp at this
      exact this.1
    · obtain ⟨v, hv, hxv⟩ := (allR_mem l x).1 hx
      have:=h1 v hv
      unfold badVx at this
      rw [← badDart_iff]
      simp at this
      simpa using this.2 x hxv
    · obtain ⟨e, he, h⟩ := (leftE_mem es x).1 hx
      have:=h2 e he
      unfold badEd at this
      simp only [timesN_count] at this
      simp at this
      rcases h with rfl | rfl
      · exact this.1
      · exact this.2
  · rintro ⟨h1, h2, h3⟩
    refine ⟨fun v hv => ?_,fun e he => ?_⟩
    · unfold badVx
      have k1:=h1 v hv
      rw [decide_eq_true k1]
      simp only [Bool.not_true,Bool.false_or]
      rw [Bool.not_eq_true,List.any_eq_false]
      intro x hx
      rw [(badDart_iff es x).2 (h2 x ((allR_mem l x).2 ⟨v,hv,hx⟩))]; simp
    · unfold badEd
      rw [timesN_count,timesN_count,h3 _ ((leftE_mem es _).2 ⟨e,he,.inl rfl⟩),h3 _ ((leftE_mem es _).2 ⟨e,he,.inr rfl⟩)]
      simp
theorem ringsP_iff (l : List Vx) (es : List Ed) : ringsP l es=true↔turned l∧(∀ x∈allR l,x∈leftE es)∧∀ x∈leftE es,(allR l).count x=1:=by
  unfold ringsP
  cases hc : eatV (leftE es) l with
  | none =>
    have:=eatV_none l _ (leftE_nodup es) hc
    simp only []
    constructor
    · intro h; cases h
    · rintro ⟨h1, h2, h3⟩
      refine absurd ⟨?_,h2,h1⟩ this
      rw [List.nodup_iff_count]
      intro x
      by_cases hx : x∈allR l
      · rw [h3 x (h2 x hx)]; exact Nat.le_refl _
      · rw [List.count_eq_zero_of_not_mem hx]; omega
  | some s =>
    obtain ⟨a1,a2,a3,a4,a5⟩:=eatV_some l _ s (leftE_nodup es) hc
    simp only []
    constructor
    · intro h
      have hs : s=[]:=List.eq_nil_of_length_eq_zero (by have:=of_decide_eq_true h; omega)
      subst hs
      refine ⟨a5,a4,fun x hx => count_one a3 ?_⟩
      by_cases hm : x∈allR l
      · exact hm
      · have:=(a2 x).2 ⟨hx,hm⟩; cases this
    · rintro ⟨h1, h2, h3⟩
      apply decide_eq_true
      cases s with
      | nil => rfl
      | cons y s =>
        obtain ⟨b1,b2⟩:=(a2 y).1 (by simp)
        have:=h3 y b1
        rw [List.count_eq_zero_of_not_mem b2] at this
        cases this
theorem ringsPB (l : List Vx) (es : List Ed) : ringsP l es=ringsB l es:=by
  rw [Bool.eq_iff_iff,ringsP_iff,ringsB_iff]
end Go.Proofs.Ytcecojdeljbjoaa.Sx
namespace Go.Proofs.Ytcecojdeljbjoaa.Sx
open Go
def labB (l : List Vx) (es : List Ed) : Bool:=l.any (fun v => !mayLab v.label) || es.any (fun v => !mayLab v.label)
def attB (l : List Vx) (es : List Ed) : Bool:=l.any (fun v => !mayAtt v.attr) || es.any (fun v => !mayAtt v.attr)
def formC (l : List Vx) (es : List Ed) : Int :=
  if l.length > 24∨es.length > 40 then 3 else if riseI (l.map Vx.id)=false∨riseI (es.map Ed.id)=false∨ringsB l es=false then 10 else if labB l es then 4 else if attB l es then 1 else 0
theorem i_diagram_Form (l : List Vx) (es : List Ed) (hr : FitsR l) : call F 35 [.agg [.sl .shared 5 (rowsBy Vx.c l),.sl .shared 4 (rowsBy Ed.c es)]]=some (.int .i64 (formC l es)):=by
  unfold formC
  by_cases h1 : l.length > 24
  · rw [if_pos (.inl h1)]
    have k1 : decide ((l.length : Int) > 24)=true:=decide_eq_true (by omega)
    rw [call_code F (show F 35=some (.code f35) from rfl)]
    simp only [f35,k1,go_sem,seval]
  · have k1 : decide ((l.length : Int) > 24) = false := decide_eq_false (by omega)
    by_cases h2 : es.length > 40
    · rw [if_pos (.inr h2)]
      have k2 : decide ((es.length : Int) > 40)=true:=decide_eq_true (by omega)
      rw [call_code F (show F 35=some (.code f35) from rfl)]
      simp only [f35,k1,k2,go_sem,seval]
    · have k2 : decide ((es.length : Int) > 40) = false := decide_eq_false (by omega)
      rw [if_neg (by omega)]
      have hl : Fits l:=by unfold Fits; omega
      have he : Fits es:=by unfold Fits; omega
      have n1:=c_named_Vertex l hl
      have n2:=c_named_Edge es he
      have r1:=c_rise (l.map Vx.id) (by unfold Fits; rw [List.length_map]; omega)
      have r2:=c_rise (es.map Ed.id) (by unfold Fits; rw [List.length_map]; omega)
      have r3:=i_diagram_rings l es hl hr he
      rw [ringsPB] at r3
      have s1:=i_some l es hl he 48 (fun s _ => !mayLab s) i_Form1
      have s2:=i_some l es hl he 50 (fun _ n => !mayAtt n) i_Form2
      rw [show (l.any (fun v => (fun s _ => !mayLab s) v.label v.attr) || es.any (fun v => (fun s _ => !mayLab s) v.label v.attr))=labB l es from rfl] at s1
      rw [show (l.any (fun v => (fun _ n => !mayAtt n) v.label v.attr) || es.any (fun v => (fun _ n => !mayAtt n) v.label v.attr))=attB l es from rfl] at s2
      generalize l.map Vx.id=i1 at *
      generalize es.map Ed.id=i2 at *
      generalize riseI i1=b1 at *
      generalize riseI i2=b2 at *
      generalize ringsB l es=b3 at *
      generalize labB l es=b4 at *
      generalize attB l es=b5 at *
      cases b1
      · rw [call_code F (show F 35 = some (.code f35) from rfl)]
        simp only [f35,k1,k2,n1,r1,go_sem,seval]
      · cases b2
        · rw [call_code F (show F 35 = some (.code f35) from rfl)]
          simp only [f35,k1,k2,n1,n2,r1,r2,go_sem,seval]
        · cases b3
          · rw [call_code F (show F 35 = some (.code f35) from rfl)]
            simp only [f35,k1,k2,n1,n2,r1,r2,r3,go_sem,seval]
          · cases b4<;>cases b5<;>(rw [call_code F (show F 35=some (.code f35) from rfl)])<;>(simp only [f35,k1,k2,n1,n2,r1,r2,r3,s1,s2,go_sem,seval])
end Go.Proofs.Ytcecojdeljbjoaa.Sx
namespace Go.Proofs.Ytcecojdeljbjoaa.Sx
open Go
def FitsL (l : List Vx) (es : List Ed) : Prop:=(∀ v∈l,v.label.size≤9223372036854775807)∧∀ v∈es,v.label.size≤9223372036854775807
end Go.Proofs.Ytcecojdeljbjoaa.Sx
namespace Go.Proofs.Ytcecojdeljbjoaa.Sx
open Go
/-! ### names that rise -/
def ltI (a b : ID) : Prop:=a.s < b.s∨a.s=b.s∧a.n < b.n
theorem ltI_trans {a b c : ID} (h : ltI a b) (h' : ltI b c) : ltI a c:=by unfold ltI at *; omega
theorem ltI_irrefl (a : ID) : ¬ ltI a a:=by unfold ltI; omega
theorem ltI_ne {a b : ID} (h : ltI a b) : a≠b:=fun e => ltI_irrefl b (e ▸ h)
theorem ordI_lt {a b : ID} : ordI a b < 0↔ltI a b:=by
  rcases ordI_cases a b with ⟨h,rfl⟩ | ⟨h,h'⟩ | ⟨h,h'⟩
  · rw [h]; constructor
    · intro h; omega
    · intro h; exact absurd h (ltI_irrefl _)
  · rw [h]; exact ⟨fun _ => h',fun _ => by omega⟩
  · rw [h]; constructor
    · intro h; omega
    · intro h; unfold ltI at h; omega
def Rise (l : List ID) : Prop:=(∀ x∈l,mayI x=true)∧l.Pairwise ltI
theorem pair_of_next {α : Type} {R : α→α→Prop} (ht : ∀ a b c,R a b→R b c→R a c) {l : List α} (h : ∀ (i : Nat) (hi : i+1 < l.length),R l[i] l[i+1]) : l.Pairwise R:=by
  rw [List.pairwise_iff_getElem]
  intro i j hi hj hij
  induction j with
  | zero => omega
  | succ j ih =>
    by_cases e : i=j
    · subst e; exact h i hj
    · exact ht _ _ _ (ih (by omega) (by omega)) (h j hj)
theorem riseI_iff (l : List ID) : riseI l=true↔Rise l:=by
  constructor
  · intro h
    unfold riseI at h
    rw [List.all_eq_true] at h
    have hb : ∀ i,i < l.length→badR l i=false:=fun i hi => by simpa using h i (List.mem_range.2 hi)
    refine ⟨fun x hx => ?_,pair_of_next (R:=ltI) (fun a b c => ltI_trans) fun i hi => ?_⟩
    · obtain ⟨i, hi, rfl⟩ := List.mem_iff_getElem.1 hx
      exact (badR_no hi (hb i hi)).1
    · exact ordI_lt.1 ((badR_no hi (hb _ hi)).2 i rfl)
  · rintro ⟨h1, h2⟩
    refine riseI_true fun i hi => ?_
    cases hb : badR l i with
    | false => rfl
    | true =>
      obtain ⟨j,rfl,hj⟩:=badR_yes hi hb (h1 _ (List.getElem_mem hi))
      have:=ordI_lt.2 (List.pairwise_iff_getElem.1 h2 j (j+1) (by omega) hi (by omega))
      omega
theorem Rise.nodup {l : List ID} (h : Rise l) : l.Nodup:=h.2.imp fun h => ltI_ne h
/-! ### the darts of edges -/
def dartsE (es : List Ed) : List Dart:=es.flatMap fun e => [⟨e.id,0⟩,⟨e.id,1⟩]
theorem dartsE_mem {es : List Ed} {x : Dart} : x∈dartsE es↔∃ e∈es,x=⟨e.id,0⟩∨x=⟨e.id,1⟩:=by
  unfold dartsE; rw [List.mem_flatMap]; simp
theorem dartsE_len (es : List Ed) : (dartsE es).length=2 * es.length:=by
  unfold dartsE
  induction es with
  | nil => rfl
  | cons e es ih => rw [List.flatMap_cons,List.length_append,ih]; simp; omega
theorem dartsE_nodup : ∀ {es : List Ed},(es.map Ed.id).Nodup→(dartsE es).Nodup
  | [],_ => by simp [dartsE]
  | e :: es, h => by
    rw [List.map_cons,List.nodup_cons] at h
    unfold dartsE
    rw [List.flatMap_cons,List.nodup_append]
    refine ⟨by simp,dartsE_nodup h.2,fun a ha b hb => ?_⟩
    obtain ⟨f,hf,hb⟩:=dartsE_mem.1 hb
    have hne : f.id≠e.id:=fun he => h.1 (he ▸ List.mem_map.2 ⟨f,hf,rfl⟩)
    rintro rfl
    simp at ha
    rcases ha with rfl | rfl<;>simp at hb<;>exact hne hb.symm
theorem leftE_iff {es : List Ed} {x : Dart} : x∈leftE es↔x∈dartsE es:=by rw [leftE_mem,dartsE_mem]
/-! ### well formed -/
structure WF (l : List Vx) (es : List Ed) : Prop where
  lv : l.length≤24
  le : es.length≤40
  sv : Rise (l.map Vx.id)
  se : Rise (es.map Ed.id)
  tn : ∀ v∈l,v.ring=turn v.ring
  nd : (allR l).Nodup
  mem : ∀ x,x∈allR l↔x∈dartsE es
theorem nodup_count1 {α : Type} [DecidableEq α] {l : List α} (h : ∀ x∈l,l.count x=1) : l.Nodup :=
  List.nodup_iff_count.2 fun x => by
    by_cases hx : x∈l
    · rw [h x hx]; exact Nat.le_refl _
    · rw [List.count_eq_zero_of_not_mem hx]; omega
theorem wf_of {l : List Vx} {es : List Ed} (h1 : l.length≤24) (h2 : es.length≤40) (h3 : riseI (l.map Vx.id)=true) (h4 : riseI (es.map Ed.id)=true) (h5 : ringsB l es=true) : WF l es:=by
  obtain ⟨a,b,c⟩:=(ringsB_iff l es).1 h5
  have hm : ∀ x,x∈allR l↔x∈dartsE es:=fun x => by
    constructor
    · intro hx; exact leftE_iff.1 (b x hx)
    · intro hx
      have:=c x (leftE_iff.2 hx)
      exact List.count_pos_iff.1 (by omega)
  exact ⟨h1,h2,(riseI_iff _).1 h3,(riseI_iff _).1 h4,a,nodup_count1 fun x hx => c x (b x hx),hm⟩
theorem WF.rings {l : List Vx} {es : List Ed} (h : WF l es) : ringsB l es=true :=
  (ringsB_iff l es).2 ⟨h.tn,fun x hx => leftE_iff.2 ((h.mem x).1 hx),fun x hx => count_one h.nd ((h.mem x).2 (leftE_iff.1 hx))⟩
theorem formC_wf {l : List Vx} {es : List Ed} (h : WF l es) : formC l es=if labB l es then 4 else if attB l es then 1 else 0:=by
  unfold formC
  rw [if_neg (by have:=h.lv; have:=h.le; omega),if_neg]
  rw [(riseI_iff _).2 h.sv,(riseI_iff _).2 h.se,h.rings]; simp
theorem formC_no {l : List Vx} {es : List Ed} (h1 : l.length≤24) (h2 : es.length≤40) (h : ¬ WF l es) : formC l es=10:=by
  unfold formC
  rw [if_neg (by omega),if_pos]
  cases a : riseI (l.map Vx.id) with
  | false => exact .inl rfl
  | true => cases b : riseI (es.map Ed.id) with
    | false => exact .inr (.inl rfl)
    | true => cases c : ringsB l es with
      | false => exact .inr (.inr rfl)
      | true => exact absurd (wf_of h1 h2 a b c) h
theorem formC_big {l : List Vx} {es : List Ed} (h : 24 < l.length∨40 < es.length) : formC l es=3:=by
  unfold formC; rw [if_pos (by omega)]
theorem formC_cases (l : List Vx) (es : List Ed) : formC l es=3∨formC l es=10∨WF l es∧(formC l es=4∧labB l es=true∨formC l es=1∧labB l es=false∧attB l es=true∨formC l es=0∧labB l es=false∧attB l es=false):=by
  by_cases hb : 24 < l.length∨40 < es.length
  · exact .inl (formC_big hb)
  · by_cases hw : WF l es
    · refine .inr (.inr ⟨hw, ?_⟩)
      rw [formC_wf hw]
      cases labB l es<;>cases attB l es<;>simp
    · exact .inr (.inl (formC_no (by omega) (by omega) hw))
theorem formC_ok {l : List Vx} {es : List Ed} : formC l es=0↔WF l es∧labB l es=false∧attB l es=false:=by
  constructor
  · intro h
    rcases formC_cases l es with h' | h' | ⟨hw,h' | h' | h'⟩
    · omega
    · omega
    · omega
    · omega
    · exact ⟨hw,h'.2⟩
  · rintro ⟨hw, h1, h2⟩
    rw [formC_wf hw,h1,h2]; rfl
/-! ### what is found in a diagram that is well formed -/
theorem firstBy_of {α : Type} {p : α→Bool} {l : List α} {x : α} (hx : x∈l) (hp : p x=true) (h1 : ∀ y∈l,p y=true→y=x) : firstBy p l=some x:=by
  cases h : firstBy p l with
  | none => rw [firstBy_no h x hx] at hp; cases hp
  | some y => rw [h1 y (firstBy_mem h).1 (firstBy_mem h).2]
theorem inj_of_nodup {α β : Type} {f : α→β} : ∀ {l : List α},(l.map f).Nodup→∀ {x y : α},x∈l→y∈l→f x=f y→x=y
  | a :: l, h, x, y, hx, hy, e => by
    rw [List.map_cons,List.nodup_cons] at h
    rcases List.mem_cons.1 hx with e1 | hx<;>rcases List.mem_cons.1 hy with e2 | hy
    · rw [e1,e2]
    · exact absurd (List.mem_map.2 ⟨y,hy,by rw [← e,e1]⟩) h.1
    · exact absurd (List.mem_map.2 ⟨x,hx,by rw [e,e2]⟩) h.1
    · exact inj_of_nodup h.2 hx hy e
section
variable {l : List Vx} {es : List Ed}
theorem atBy_some {x : Dart} {v : Vx} (h : atBy l x=some v) : v∈l∧x∈v.ring:=⟨(firstBy_mem h).1,by simpa using (firstBy_mem h).2⟩
theorem atBy_none {x : Dart} (h : atBy l x=none) : x∉allR l:=fun hx => by
  obtain ⟨v,hv,hx⟩:=(allR_mem l x).1 hx
  have:=firstBy_no h v hv
  simp at this
  exact this hx
theorem ring_one : ∀ {l : List Vx},(allR l).Nodup→∀ {x : Dart} {i j : Nat} (hi : i < l.length) (hj : j < l.length),x∈l[i].ring→x∈l[j].ring→i=j
  | v :: l, h, x, i, j, hi, hj, h1, h2 => by
    unfold allR at h
    rw [List.map_cons,List.flatten_cons,List.nodup_append] at h
    have key : ∀ k (hk : k < l.length),x∈v.ring→x∈l[k].ring→False:=fun k hk a b => h.2.2 x a x ((allR_mem l x).2 ⟨_,List.getElem_mem hk,b⟩) rfl
    cases i with
    | zero => cases j with
      | zero => rfl
      | succ j => exact (key j (by simpa using hj) (by simpa using h1) (by simpa using h2)).elim
    | succ i => cases j with
      | zero => exact (key i (by simpa using hi) (by simpa using h2) (by simpa using h1)).elim
      | succ j => exact congrArg (·+1) (ring_one (l:=l) h.2.1 (x:=x) (i:=i) (j:=j) (by simpa using hi) (by simpa using hj) (by simpa using h1) (by simpa using h2))
theorem at_one (h : (allR l).Nodup) {x : Dart} {v w : Vx} (hv : v∈l) (hw : w∈l) (h1 : x∈v.ring) (h2 : x∈w.ring) : v=w:=by
  obtain ⟨i,hi,rfl⟩:=List.mem_iff_getElem.1 hv
  obtain ⟨j,hj,rfl⟩:=List.mem_iff_getElem.1 hw
  have e:=ring_one h hi hj h1 h2
  simp only [e]
theorem atBy_mem (h : (allR l).Nodup) {x : Dart} {v : Vx} (hv : v∈l) (hx : x∈v.ring) : atBy l x=some v :=
  firstBy_of hv (decide_eq_true hx) fun y hy e => at_one h hy hv (of_decide_eq_true e) hx
theorem len_of_mem {α : Type} [DecidableEq α] {a b : List α} (ha : a.Nodup) (hb : b.Nodup) (h : ∀ x,x∈a↔x∈b) : a.length=b.length :=
  ((List.perm_ext_iff_of_nodup ha hb).2 h).length_eq
theorem WF.many (h : WF l es) : (allR l).length=2 * es.length:=by
  rw [len_of_mem h.nd (dartsE_nodup h.se.nodup) h.mem,dartsE_len]
end
end Go.Proofs.Ytcecojdeljbjoaa.Sx
namespace Go.Proofs.Ytcecojdeljbjoaa.Sx
open Go
def Rot (l m : List Dart) : Prop:=∃ a b,l=a++b∧m=b++a
theorem Rot.refl (l : List Dart) : Rot l l:=⟨l,[],by simp,by simp⟩
theorem Rot.symm {l m : List Dart} : Rot l m→Rot m l:=fun ⟨a,b,h1,h2⟩ => ⟨b,a,h2,h1⟩
theorem Rot.trans {l m k : List Dart} (h : Rot l m) (h2 : Rot m k) : Rot l k:=by
  obtain ⟨a,b,rfl,rfl⟩:=h
  obtain ⟨c,d,e,rfl⟩:=h2
  rcases List.append_eq_append_iff.1 e with ⟨x,rfl,rfl⟩ | ⟨x,rfl,rfl⟩
  · exact ⟨x,d++b,by simp,by simp⟩
  · exact ⟨a++c,x,by simp,by simp⟩
theorem Rot.mem {l m : List Dart} (h : Rot l m) (x : Dart) : x∈l↔x∈m:=by
  obtain ⟨a,b,rfl,rfl⟩:=h; simp [or_comm]
theorem Rot.len {l m : List Dart} (h : Rot l m) : l.length=m.length:=by
  obtain ⟨a,b,rfl,rfl⟩:=h; simp; omega
theorem Rot.nodup {l m : List Dart} (h : Rot l m) (hl : l.Nodup) : m.Nodup:=by
  obtain ⟨a,b,rfl,rfl⟩:=h
  rw [List.nodup_append] at hl ⊢
  exact ⟨hl.2.1,hl.1,fun x hx y hy e => hl.2.2 y hy x hx e.symm⟩
theorem Rot.map {l m : List Dart} (h : Rot l m) (f : Dart→Dart) : Rot (l.map f) (m.map f):=by
  obtain ⟨a,b,rfl,rfl⟩:=h; exact ⟨a.map f,b.map f,by simp,by simp⟩
theorem Rot.filter {l m : List Dart} (h : Rot l m) (p : Dart→Bool) : Rot (l.filter p) (m.filter p):=by
  obtain ⟨a,b,rfl,rfl⟩:=h; exact ⟨a.filter p,b.filter p,by simp,by simp⟩
theorem erase_filt (x : Dart) : ∀ {l : List Dart},l.Nodup→l.erase x=l.filter (fun y => decide (¬ y=x))
  | [],_ => rfl
  | y :: l, h => by
    rw [List.nodup_cons] at h
    by_cases e : y=x
    · subst e
      rw [List.erase_cons_head,List.filter_cons_of_neg (by simp)]
      symm
      rw [List.filter_eq_self]
      intro z hz; simp; intro e; subst e; exact h.1 hz
    · rw [List.erase_cons_tail (by simpa using e),List.filter_cons_of_pos (by simpa using e),erase_filt x h.2]
def ga (l : List Dart) (i : Nat) : Dart:=l.getD (i % l.length) Dart0
theorem ga_lt {l : List Dart} {i : Nat} (h : i < l.length) : ga l i=l[i]:=by
  unfold ga; rw [Nat.mod_eq_of_lt h,List.getD_eq_getElem?_getD,List.getElem?_eq_getElem h]; rfl
theorem ga_mod (l : List Dart) (i : Nat) : ga l (i % l.length)=ga l i:=by unfold ga; rw [Nat.mod_mod]
theorem ga_mem {l : List Dart} (h : 0 < l.length) (i : Nat) : ga l i∈l:=by
  rw [← ga_mod,ga_lt (Nat.mod_lt _ h)]; exact List.getElem_mem _
theorem ga_inj {l : List Dart} (hn : l.Nodup) (h : 0 < l.length) {i j : Nat} (e : ga l i=ga l j) : i % l.length=j % l.length:=by
  rw [← ga_mod,← ga_mod l j,ga_lt (Nat.mod_lt _ h),ga_lt (Nat.mod_lt _ h)] at e
  exact (List.getElem_inj hn).1 e
theorem ga_idx {l : List Dart} {x : Dart} (h : x∈l) : ga l (l.idxOf x)=x:=by
  obtain ⟨h1,h2⟩:=idxOf_at h
  rw [ga_lt h1]; exact h2
theorem ga_swap (a b : List Dart) (i : Nat) : ga (b++a) i=ga (a++b) (i+a.length):=by
  by_cases h0 : (a++b).length=0
  · have ha : a = [] := List.eq_nil_of_length_eq_zero (by simp at h0; simp [h0])
    subst ha; simp
  · have hlen : (b ++ a).length = (a ++ b).length := by simp; omega
    have hpos : 0 < (a++b).length:=by omega
    rw [← ga_mod (b++a),← ga_mod (a++b) (i+a.length),← Nat.mod_add_mod,hlen]
    have hr : i % (a++b).length < (a++b).length:=Nat.mod_lt _ hpos
    generalize i % (a++b).length=r at hr
    rw [ga_mod,ga_lt (by rw [hlen]; exact hr)]
    have hl2 : (a++b).length=a.length+b.length:=by simp
    by_cases h : r < b.length
    · rw [ga_lt (by omega), List.getElem_append_left h, List.getElem_append_right (by omega)]
      congr 1; omega
    · rw [← ga_mod, Nat.mod_eq_sub_mod (by omega), Nat.mod_eq_of_lt (by omega), ga_lt (by omega), List.getElem_append_right (by omega), List.getElem_append_left (by omega)]
      congr 1; omega
theorem Rot.ga {l m : List Dart} (h : Rot l m) : ∃ j,∀ i,ga m i=ga l (i+j):=by
  obtain ⟨a,b,rfl,rfl⟩:=h
  exact ⟨a.length,ga_swap a b⟩
theorem byD_ga {l : List Dart} {x : Dart} (h : x∈l) (n : Nat) : byD l x n=ga l (l.idxOf x+n):=by unfold byD ga; rw [if_pos h]
theorem byD_at {l : List Dart} (hn : l.Nodup) (h : 0 < l.length) (i n : Nat) : byD l (ga l i) n=ga l (i+n):=by
  have hm:=ga_mem h i
  rw [byD_ga hm]
  have e:=ga_inj hn h (ga_idx hm)
  rw [← ga_mod,← Nat.mod_add_mod,e,Nat.mod_add_mod,ga_mod]
theorem byD_rot {l m : List Dart} (hn : l.Nodup) (h : Rot l m) (x : Dart) (n : Nat) : byD m x n=byD l x n:=by
  by_cases hx : x∈l
  · have hm := (h.mem x).1 hx
    have hpos : 0 < l.length:=List.length_pos_of_mem hx
    obtain ⟨j,hj⟩:=h.ga
    rw [byD_ga hm,hj]
    have e : ga l (m.idxOf x+j)=x:=by rw [← hj,ga_idx hm]
    conv => rhs; rw [← e]
    rw [byD_at hn hpos]
    congr 1; omega
  · unfold byD; rw [if_neg hx,if_neg (fun hm => hx ((h.mem x).2 hm))]
theorem nextD_ga {l : List Dart} (hn : l.Nodup) (h : 0 < l.length) (i : Nat) : nextD l (ga l i)=ga l (i+1):=byD_at hn h i 1
theorem ends {l : List Dart} {x : Dart} (hx : x∈l) : ∃ w,Rot l (w++[x]):=by
  obtain ⟨a,b,rfl⟩:=List.append_of_mem hx
  exact ⟨b++a,a++[x],b,by simp,by simp⟩
theorem joined {l : List Dart} (hn : l.Nodup) {x : Dart} (hx : x∈l) (h3 : ¬ l.length < 3) : nextD (l.erase x) (prevD l x)=nextD l x:=by
  obtain ⟨w,hw⟩:=ends hx
  have hnw:=hw.nodup hn
  have hlw:=hw.len
  have hl2 : (w++[x]).length=w.length+1:=by simp
  have hxw : x∉w:=by
    rw [List.nodup_append] at hnw
    intro h; exact hnw.2.2 x h x (by simp) rfl
  have hnw' : w.Nodup:=by rw [List.nodup_append] at hnw; exact hnw.1
  have er : Rot (l.erase x) w:=by
    rw [erase_filt x hn]
    have:=hw.filter (fun y => decide (¬ y=x))
    rw [← erase_filt x hnw,List.erase_append_right _ hxw] at this
    simpa using this
  have hm2 : 2≤w.length:=by omega
  have hpos : 0 < (w++[x]).length:=by omega
  have gx : ga (w++[x]) w.length=x:=by
    rw [ga_lt (by omega)]; simp
  have key : ∀ t,byD l x t=ga (w++[x]) (w.length+t):=by
    intro t
    rw [← byD_rot hn hw]
    have:=byD_at hnw hpos w.length t
    rw [gx] at this; exact this
  unfold nextD prevD
  rw [key,key,← byD_rot (hn.erase x) er]
  have e1 : ga (w++[x]) (w.length+(l.length - 1))=ga w (w.length - 1):=by
    rw [← ga_mod,show (w.length+(l.length - 1)) % (w++[x]).length=w.length - 1 by
      rw [hlw,hl2,Nat.mod_eq_sub_mod (by omega),Nat.mod_eq_of_lt (by omega)]; omega,ga_lt (by omega),ga_lt (by omega),List.getElem_append_left (by omega)]
  have e2 : ga (w++[x]) (w.length+1)=ga w (w.length - 1+1):=by
    rw [← ga_mod,show (w.length+1) % (w++[x]).length=0 by rw [hl2,Nat.mod_self],← ga_mod w,show (w.length - 1+1) % w.length=0 by rw [Nat.sub_add_cancel (by omega),Nat.mod_self],ga_lt (by omega),ga_lt (by omega),List.getElem_append_left (by omega)]
  rw [e1,e2,byD_at hnw' (by omega)]
end Go.Proofs.Ytcecojdeljbjoaa.Sx
namespace Go.Proofs.Ytcecojdeljbjoaa.Sx
open Go
theorem Rot.count {l m : List Dart} (h : Rot l m) (y : Dart) : l.count y=m.count y:=by
  obtain ⟨a,b,rfl,rfl⟩:=h
  rw [List.count_append,List.count_append]; omega
theorem allR_cons (v : Vx) (m : List Vx) : allR (v :: m)=v.ring++allR m:=by unfold allR; rw [List.map_cons,List.flatten_cons]
theorem count_set : ∀ {l : List Vx} {k : Nat} (hk : k < l.length) (u : Vx) (y : Dart),(allR (l.set k u)).count y+l[k].ring.count y=(allR l).count y+u.ring.count y
  | v :: l, 0, _, u, y => by
    show (allR (u :: l)).count y+v.ring.count y=_
    rw [allR_cons,allR_cons,List.count_append,List.count_append]; omega
  | v :: l, k + 1, hk, u, y => by
    have:=count_set (l:=l) (k:=k) (by simpa using hk) u y
    show (allR (v :: l.set k u)).count y+(l[k]'(by simpa using hk)).ring.count y=_
    rw [allR_cons,allR_cons,List.count_append,List.count_append]; omega
def reR (v : Vx) (r : List Dart) : Vx:=⟨v.id,r,v.label,v.attr⟩
theorem ring_nodup {v : List Vx} (h : (allR v).Nodup) {u : Vx} (hu : u∈v) : u.ring.Nodup:=by
  rw [List.nodup_iff_count]
  intro y
  have h1:=List.nodup_iff_count.1 h y
  obtain ⟨k,hk,rfl⟩:=List.mem_iff_getElem.1 hu
  have h2:=count_set hk (reR v[k] []) y
  have h3 : (reR v[k] []).ring.count y=0:=rfl
  omega
end Go.Proofs.Ytcecojdeljbjoaa.Sx
namespace Go.Proofs.Ytcecojdeljbjoaa.Sx
def Pth {α : Type} (f : α→α) : α→List α→α→Prop
  | x,[],y => f x=y
  | x,z :: r,y => f x=z∧Pth f z r y
theorem Pth.app {α : Type} {f : α→α} : ∀ {r : List α} {x z y : α} {s : List α},Pth f x (r++z :: s) y↔Pth f x r z∧Pth f z s y
  | [],x,z,y,s => Iff.rfl
  | w :: r,x,z,y,s => by simp only [List.cons_append,Pth,Pth.app (r:=r),and_assoc]
theorem Pth.closed {α : Type} {f : α→α} {S : α→Prop} (hS : ∀ z,S z→S (f z)) : ∀ {r : List α} {x y : α},Pth f x r y→S x→(∀ z∈r,S z)∧S y
  | [], x, y, h, hx => by
    have h : f x=y:=h
    exact ⟨fun z hz => (by cases hz),h ▸ hS x hx⟩
  | w :: r, x, y, h, hx => by
    have hw : S w:=h.1 ▸ hS x hx
    obtain ⟨a,b⟩:=Pth.closed hS h.2 hw
    refine ⟨fun z hz => ?_,b⟩
    rcases List.mem_cons.1 hz with rfl | hz
    · exact hw
    · exact a z hz
theorem Pth.mem {α : Type} {f : α→α} : ∀ {r : List α} {x y : α},Pth f x r y→∀ z∈x :: r,f z∈r++[y]
  | [], x, y, h, z, hz => by
    have : z=x:=by simpa using hz
    subst this; rw [show f z=y from h]; simp
  | w :: r, x, y, h, z, hz => by
    rcases List.mem_cons.1 hz with rfl | hz
    · rw [h.1]; simp
    · have := Pth.mem h.2 z hz
      simp only [List.cons_append,List.mem_cons]
      exact .inr this
theorem Pth.change {α : Type} {f g : α→α} {y w : α} : ∀ {r : List α} {x : α},Pth f x r y→y∉r→(∀ z∈x :: r,f z≠y→g z=f z)→(∀ z∈x :: r,f z=y→g z=w)→Pth g x r w
  | [],x,h,_,_,h2 => h2 x (by simp) h
  | z :: r, x, h, hy, h1, h2 => by
    refine ⟨?_,Pth.change h.2 (fun hm => hy (by simp [hm])) (fun u hu => h1 u (by simp at hu ⊢; exact .inr hu)) (fun u hu => h2 u (by simp at hu ⊢; exact .inr hu))⟩
    rw [h1 x (by simp) (by rw [h.1]; rintro rfl; exact hy (by simp)),h.1]
theorem Pth.congr {α : Type} {f g : α→α} {y : α} : ∀ {r : List α} {x : α},Pth f x r y→(∀ z∈x :: r,g z=f z)→Pth g x r y
  | [],x,h,h1 => (h1 x (by simp)).trans h
  | z :: r,x,h,h1 => ⟨(h1 x (by simp)).trans h.1,Pth.congr h.2 fun u hu => h1 u (by simp at hu ⊢; exact .inr hu)⟩
def Cy {α : Type} (f : α→α) : List α→Prop
  | [] => False
  | x :: r => Pth f x r x
theorem Cy.rot {α : Type} {f : α→α} {r s : List α} {z : α} (h : Cy f (r++z :: s)) : Cy f (z :: (s++r)):=by
  cases r with
  | nil => simpa using h
  | cons x r =>
    obtain ⟨a,b⟩:=Pth.app.1 (show Pth f x (r++z :: s) x from h)
    exact Pth.app.2 ⟨b,a⟩
theorem Cy.step {α : Type} {f : α→α} {c : List α} (h : Cy f c) {z : α} (hz : z∈c) : f z∈c:=by
  cases c with
  | nil => cases h
  | cons x r =>
    have:=Pth.mem (show Pth f x r x from h) z hz
    simp only [List.mem_append,List.mem_singleton] at this
    rcases this with h | h
    · simp [h]
    · simp [h]
theorem Cy.within {α : Type} {f : α→α} {c : List α} (h : Cy f c) {S : α→Prop} (hS : ∀ z,S z→S (f z)) {z : α} (hz : z∈c) (hs : S z) : ∀ y∈c,S y:=by
  obtain ⟨r,s,rfl⟩:=List.append_of_mem hz
  have:=(Pth.closed hS (show Pth f z (s++r) z from h.rot) hs).1
  intro y hy
  simp only [List.mem_append,List.mem_cons] at hy
  rcases hy with hy | rfl | hy
  · exact this y (by simp [hy])
  · exact hs
  · exact this y (by simp [hy])
theorem Cy.sub {α : Type} {f : α→α} {c d : List α} (hc : Cy f c) (hd : Cy f d) {z : α} (h1 : z∈c) (h2 : z∈d) : ∀ y∈c,y∈d :=
  hc.within (S:=fun y => y∈d) (fun _ => hd.step) h1 h2
structure Dec {α : Type} (f : α→α) (D : List α) (cs : List (List α)) : Prop where
  cy : ∀ c∈cs,Cy f c
  nd : cs.flatten.Nodup
  mem : ∀ x,x∈cs.flatten↔x∈D
theorem Dec.perm {α : Type} {f : α→α} {D : List α} {cs ds : List (List α)} (h : Dec f D cs) (p : cs.Perm ds) : Dec f D ds:=by
  have pf:=p.flatten
  exact ⟨fun c hc => h.cy c (p.mem_iff.2 hc),(pf.nodup_iff).1 h.nd,fun x => by rw [← pf.mem_iff,h.mem]⟩
theorem Dec.turn {α : Type} {f : α→α} {D : List α} {cs : List (List α)} {r s : List α} {z : α} (h : Dec f D ((r++z :: s) :: cs)) : Dec f D ((z :: (s++r)) :: cs):=by
  have pf : ((r++z :: s) :: cs).flatten.Perm ((z :: (s++r)) :: cs).flatten:=by
    rw [List.flatten_cons,List.flatten_cons]
    exact List.Perm.append_right _ (by
      have:=List.perm_append_comm (l₁:=r) (l₂:=z :: s)
      simpa using this)
  refine ⟨fun c hc => ?_,(pf.nodup_iff).1 h.nd,fun x => by rw [← pf.mem_iff,h.mem]⟩
  rcases List.mem_cons.1 hc with rfl | hc
  · exact (h.cy _ (by simp)).rot
  · exact h.cy c (by simp [hc])
theorem perm_front {α : Type} {l : List α} {x : α} (h : x∈l) : ∃ r,l.Perm (x :: r):=by
  obtain ⟨a,b,rfl⟩:=List.append_of_mem h
  exact ⟨a++b,List.perm_middle⟩
theorem Dec.front {α : Type} {f : α→α} {D : List α} {cs : List (List α)} (h : Dec f D cs) {x : α} (hx : x∈D) : ∃ A rest c,c∈cs∧x∈c∧(∀ y,y∈c↔y∈x :: A)∧cs.Perm (c :: rest)∧Dec f D ((x :: A) :: rest):=by
  obtain ⟨c,hc,hxc⟩:=List.mem_flatten.1 ((h.mem x).2 hx)
  obtain ⟨rest,p⟩:=perm_front hc
  have h1:=h.perm p
  obtain ⟨r,s,rfl⟩:=List.append_of_mem hxc
  exact ⟨s++r,rest,_,hc,hxc,fun y => by simp only [List.mem_append,List.mem_cons]; constructor<;>(rintro (h | h | h)<;>simp [h]),p,h1.turn⟩
theorem Dec.step {α : Type} {f : α→α} {D : List α} {cs : List (List α)} (h : Dec f D cs) {x : α} (hx : x∈D) : f x∈D:=by
  obtain ⟨c,hc,hxc⟩:=List.mem_flatten.1 ((h.mem x).2 hx)
  exact (h.mem _).1 (List.mem_flatten.2 ⟨c,hc,(h.cy c hc).step hxc⟩)
theorem cy_le {α : Type} {f : α→α} {p : List α→Bool} : ∀ {cs ds : List (List α)},(∀ c∈cs,Cy f c)→(∀ d∈ds,Cy f d)→cs.flatten.Nodup→(∀ x∈cs.flatten,x∈ds.flatten) →
    (∀ c∈cs,∀ d∈ds,∀ x,x∈c→x∈d→p c=p d)→(cs.filter p).length≤(ds.filter p).length
  | [],ds,_,_,_,_,_ => by simp
  | c :: cs, ds, h1, h2, hn, hs, hp => by
    have hc:=h1 c (by simp)
    cases c with
    | nil => cases hc
    | cons x r =>
      rw [List.flatten_cons,List.nodup_append] at hn
      obtain ⟨d,hd,hx⟩:=List.mem_flatten.1 (hs x (by simp))
      obtain ⟨rest,pm⟩:=perm_front hd
      have ih:=cy_le (cs:=cs) (ds:=rest) (p:=p) (fun c hc => h1 c (by simp [hc])) (fun d hd => h2 d (pm.mem_iff.2 (by simp [hd]))) hn.2.1 (fun y hy => by
        have hy1:=(pm.flatten.mem_iff).1 (hs y (by simp only [List.flatten_cons,List.mem_append]; exact .inr hy))
        rw [List.flatten_cons,List.mem_append] at hy1
        rcases hy1 with hyd | hyr
        · exfalso
          obtain ⟨e,he,hye⟩:=List.mem_flatten.1 hy
          have h3:=(h2 d hd).sub (h1 e (by simp [he])) hyd hye x hx
          exact hn.2.2 x (by simp) x (List.mem_flatten.2 ⟨e,he,h3⟩) rfl
        · exact hyr) (fun c hc d hd => hp c (by simp [hc]) d (pm.mem_iff.2 (by simp [hd])))
      have e1 : p (x :: r)=p d:=hp _ (by simp) d hd x (by simp) hx
      have e2:=(pm.filter p).length_eq
      rw [e2,List.filter_cons,List.filter_cons,e1]
      cases p d<;>simp<;>exact ih
theorem Dec.len_le {α : Type} {f : α→α} {D : List α} {cs ds : List (List α)} (h : Dec f D cs) (k : Dec f D ds) : cs.length≤ds.length:=by
  have:=cy_le (p:=fun _ => true) h.cy k.cy h.nd (fun x hx => (k.mem x).2 ((h.mem x).1 hx)) (fun _ _ _ _ _ _ _ => rfl)
  rw [List.filter_eq_self.2 (fun _ _ => rfl),List.filter_eq_self.2 (fun _ _ => rfl)] at this
  exact this
theorem Dec.len {α : Type} {f : α→α} {D : List α} {cs ds : List (List α)} (h : Dec f D cs) (k : Dec f D ds) : cs.length=ds.length :=
  Nat.le_antisymm (h.len_le k) (k.len_le h)
theorem nodup_of_flat {α : Type} : ∀ {cs : List (List α)},cs.flatten.Nodup→∀ c∈cs,c.Nodup
  | d :: cs, h, c, hc => by
    rw [List.flatten_cons,List.nodup_append] at h
    rcases List.mem_cons.1 hc with rfl | hc
    · exact h.1
    · exact nodup_of_flat h.2.1 c hc
theorem Dec.sizes {α : Type} [DecidableEq α] {f : α→α} {D : List α} {cs ds : List (List α)} (h : Dec f D cs) (k : Dec f D ds) (n : Nat) : (cs.filter (fun c => decide (c.length=n))).length=(ds.filter (fun c => decide (c.length=n))).length:=by
  have key : ∀ {cs ds : List (List α)},Dec f D cs→Dec f D ds→∀ c∈cs,∀ d∈ds,∀ x,x∈c→x∈d→decide (c.length=n)=decide (d.length=n):=by
    intro cs ds h k c hc d hd x h1 h2
    have : c.length=d.length:=len_of_mem (nodup_of_flat h.nd c hc) (nodup_of_flat k.nd d hd) fun y => ⟨(h.cy c hc).sub (k.cy d hd) h1 h2 y,(k.cy d hd).sub (h.cy c hc) h2 h1 y⟩
    rw [this]
  exact Nat.le_antisymm (cy_le h.cy k.cy h.nd (fun x hx => (k.mem x).2 ((h.mem x).1 hx)) (key h k)) (cy_le k.cy h.cy k.nd (fun x hx => (h.mem x).2 ((k.mem x).1 hx)) (key k h))
theorem Dec.congr {α : Type} {f g : α→α} {D : List α} {cs : List (List α)} (h : Dec f D cs) (e : ∀ x∈D,g x=f x) : Dec g D cs:=by
  refine ⟨fun c hc => ?_,h.nd,h.mem⟩
  have:=h.cy c hc
  cases c with
  | nil => cases this
  | cons x r => exact Pth.congr this fun z hz => e z ((h.mem z).1 (List.mem_flatten.2 ⟨_,hc,hz⟩))
def cutF {α : Type} [DecidableEq α] (f : α→α) (a b : α) (y : α) : α:=if f y=a then (if f b=b then f a else f b) else if f y=b then (if f a=a then f b else f a) else f y
def neL {α : Type} : List α→List (List α)
  | [] => []
  | x :: r => [x :: r]
theorem neL_flat {α : Type} (l : List α) : (neL l).flatten=l:=by cases l<;>simp [neL]
theorem Dec.front2 {α : Type} {f : α→α} {D : List α} {c : List α} {rest : List (List α)} (h : Dec f D (c :: rest)) {b : α} (hb : b∈rest.flatten) : ∃ B rest',rest.length=rest'.length+1∧Dec f D (c :: (b :: B) :: rest'):=by
  obtain ⟨d,hd,hbd⟩:=List.mem_flatten.1 hb
  obtain ⟨rest',pm⟩:=perm_front hd
  obtain ⟨r,s,rfl⟩:=List.append_of_mem hbd
  refine ⟨s++r,rest',by rw [pm.length_eq]; rfl,?_⟩
  have h1:=h.perm ((pm.cons c).trans (List.Perm.swap _ _ _))
  exact h1.turn.perm (List.Perm.swap _ _ _)
theorem Dec.left {α : Type} {f : α→α} {D : List α} {cs : List (List α)} (h : Dec f D cs) {a b : α} {T : List α} (p : cs.flatten.Perm (a :: b :: T)) :
    a≠b∧a∉T∧b∉T∧T.Nodup∧∀ y,y∈T↔y∈D∧y≠a∧y≠b:=by
  have hn:=(p.nodup_iff).1 h.nd
  rw [List.nodup_cons,List.nodup_cons,List.mem_cons,not_or] at hn
  obtain ⟨⟨h1,h2⟩,h3,h4⟩:=hn
  refine ⟨h1,h2,h3,h4,fun y => ?_⟩
  rw [← h.mem y,p.mem_iff,List.mem_cons,List.mem_cons]
  constructor
  · intro hy; exact ⟨.inr (.inr hy),fun e => h2 (e ▸ hy),fun e => h3 (e ▸ hy)⟩
  · rintro ⟨h | h | h, i, j⟩
    · exact absurd h i
    · exact absurd h j
    · exact h
theorem Cy.cutCongr {α : Type} [DecidableEq α] {f g : α→α} {a b : α} {c : List α} (h : Cy f c) (ha : a∉c) (hb : b∉c) (hg : ∀ y∈c,g y=cutF f a b y) : Cy g c:=by
  cases c with
  | nil => cases h
  | cons x r =>
    refine Pth.congr h fun z hz => ?_
    have:=h.step hz
    rw [hg z hz]; unfold cutF
    rw [if_neg (fun e => ha (by rw [← e]; exact this)),if_neg (fun e => hb (by rw [← e]; exact this))]
theorem Dec.cut {α : Type} [DecidableEq α] {f g : α→α} {D D' : List α} {cs : List (List α)} (h : Dec f D cs) {a b : α} (ha : a∈D) (hb : b∈D) (hab : a≠b)
    (hD : ∀ x,x∈D'↔x∈D∧x≠a∧x≠b) (hg : ∀ y∈D',g y=cutF f a b y) :
    ∃ cs',Dec g D' cs'∧((∃ c∈cs,a∈c∧b∈c)∧cs'.length+(if f a=b then 1 else 0)+(if f b=a then 1 else 0)=cs.length+1∧(∀ u∈D',∀ w∈D',f u=a→f w=b→¬ ∃ c∈cs',u∈c∧w∈c) ∨
      (¬ ∃ c∈cs,a∈c∧b∈c)∧cs'.length+1+(if f a=a∧f b=b then 1 else 0)=cs.length∧(∀ u∈D',∀ w∈D',f u=a→f w=b→∃ c∈cs',u∈c∧w∈c)):=by
  obtain ⟨A,rest,c,hc,hac,hcA,pm,h1⟩:=h.front ha
  have hlen : cs.length=rest.length+1:=by rw [pm.length_eq]; rfl
  have pA : Pth f a A a:=h1.cy (a :: A) (by simp)
  by_cases hbA : b∈A
  · obtain ⟨A1, B, rfl⟩ := List.append_of_mem hbA
    obtain ⟨p1,p2⟩:=Pth.app.1 pA
    obtain ⟨_,haT,hbT,hT,hm⟩:=h1.left (T:=A1++(B++rest.flatten)) (a:=a) (b:=b) (by
      rw [List.flatten_cons]
      simp only [List.cons_append,List.append_assoc]
      exact (List.perm_middle).cons a)
    have hTg : ∀ y∈A1++(B++rest.flatten),g y=cutF f a b y:=fun y hy => hg y ((hD y).2 ((hm y).1 hy))
    simp only [List.mem_append,not_or] at haT hbT
    have cA : ∀ c∈neL A1,Cy g c:=by
      intro c hc
      cases A1 with
      | nil => cases hc
      | cons x r =>
        have : c=x :: r:=by simpa [neL] using hc
        subst this
        obtain ⟨e1,e2⟩:=p1
        have hmem:=Pth.mem e2
        refine Pth.change e2 (fun hm => hbT.1 (by simp [hm])) (fun z hz hne => ?_) (fun z hz he => ?_)
        · rw [hTg z (by simp only [List.mem_append]; exact .inl hz)]; unfold cutF
          rw [if_neg,if_neg hne]
          intro e
          have:=hmem z hz
          rw [e] at this
          simp only [List.mem_append,List.mem_singleton] at this
          rcases this with h | h
          · exact haT.1 (by simp [h])
          · exact hab h
        · rw [hTg z (by simp only [List.mem_append]; exact .inl hz)]; unfold cutF
          rw [if_neg (by rw [he]; exact fun e => hab e.symm),if_pos he,if_neg,e1]
          rw [e1]; rintro rfl; exact haT.1 (by simp)
    have cB : ∀ c∈neL B,Cy g c:=by
      intro c hc
      cases B with
      | nil => cases hc
      | cons x r =>
        have : c=x :: r:=by simpa [neL] using hc
        subst this
        obtain ⟨e1,e2⟩:=p2
        have hmem:=Pth.mem e2
        refine Pth.change e2 (fun hm => haT.2.1 (by simp [hm])) (fun z hz hne => ?_) (fun z hz he => ?_)
        · rw [hTg z (by simp only [List.mem_append]; exact .inr (.inl hz))]; unfold cutF
          rw [if_neg hne,if_neg]
          intro e
          have:=hmem z hz
          rw [e] at this
          simp only [List.mem_append,List.mem_singleton] at this
          rcases this with h | h
          · exact hbT.2.1 (by simp [h])
          · exact hab h.symm
        · rw [hTg z (by simp only [List.mem_append]; exact .inr (.inl hz))]; unfold cutF
          rw [if_pos he,if_neg,e1]
          rw [e1]; rintro rfl; exact hbT.2.1 (by simp)
    have rstep : ∀ z∈rest.flatten,f z∈rest.flatten:=fun z hz => by
      obtain ⟨d,hd,hzd⟩:=List.mem_flatten.1 hz
      exact List.mem_flatten.2 ⟨d,hd,(h1.cy d (by simp [hd])).step hzd⟩
    have inB : ∀ u∈D',f u=a→u∈B:=fun u hu e => by
      have hT':=(hm u).2 ((hD u).1 hu)
      rcases List.mem_append.1 hT' with h | h
      · exfalso
        cases A1 with
        | nil => cases h
        | cons x r =>
          have:=Pth.mem p1.2 u h
          rw [e] at this
          simp only [List.mem_append,List.mem_singleton] at this
          rcases this with h | h
          · exact haT.1 (by simp [h])
          · exact hab h
      · rcases List.mem_append.1 h with h | h
        · exact h
        · have := rstep u h
          rw [e] at this
          exact absurd this haT.2.2
    have inA : ∀ u∈D',f u=b→u∈A1:=fun u hu e => by
      have hT':=(hm u).2 ((hD u).1 hu)
      rcases List.mem_append.1 hT' with h | h
      · exact h
      · exfalso
        rcases List.mem_append.1 h with h | h
        · cases B with
          | nil => cases h
          | cons x r =>
            have:=Pth.mem p2.2 u h
            rw [e] at this
            simp only [List.mem_append,List.mem_singleton] at this
            rcases this with h | h
            · exact hbT.2.1 (by simp [h])
            · exact hab h.symm
        · have := rstep u h
          rw [e] at this
          exact absurd this hbT.2.2
    have hT2:=hT
    rw [List.nodup_append,List.nodup_append] at hT2
    refine ⟨neL A1++(neL B++rest),⟨fun c hc => ?_,?_,fun y => ?_⟩,.inl ⟨⟨c,hc,hac,(hcA b).2 (by simp)⟩,?_,?_⟩⟩
    · rcases List.mem_append.1 hc with hc | hc
      · exact cA c hc
      · rcases List.mem_append.1 hc with hc | hc
        · exact cB c hc
        · have hin : ∀ y ∈ c, y ∈ rest.flatten := fun y hy => List.mem_flatten.2 ⟨c, hc, hy⟩
          exact (h1.cy c (by simp [hc])).cutCongr (fun hm => haT.2.2 (hin _ hm)) (fun hm => hbT.2.2 (hin _ hm)) fun y hy => hTg y (by simp [hin y hy])
    · simpa [neL_flat] using hT
    · rw [hD,← hm y]; simp [neL_flat]
    · rw [hlen]
      have k1 : (f a=b)↔A1=[]:=by
        constructor
        · intro e
          cases A1 with
          | nil => rfl
          | cons x r => exact absurd (show b∈x :: r by have:=p1.1; rw [e] at this; rw [this]; simp) hbT.1
        · rintro rfl; exact p1
      have k2 : (f b=a)↔B=[]:=by
        constructor
        · intro e
          cases B with
          | nil => rfl
          | cons x r => exact absurd (show a∈x :: r by have:=p2.1; rw [e] at this; rw [this]; simp) haT.2.1
        · rintro rfl; exact p2
      simp only [k1,k2]
      cases A1<;>cases B<;>simp [neL]<;>omega
    · rintro u hu w hw eu ew ⟨c, hc, huc, hwc⟩
      have huB:=inB u hu eu
      have hwA:=inA w hw ew
      have ne : ∀ {l : List α} {c : List α},c∈neL l→∀ y∈c,y∈l:=fun {l c} h y hy => by
        cases l with
        | nil => cases h
        | cons x r =>
          have : c=x :: r:=by simpa [neL] using h
          rw [this] at hy; exact hy
      rcases List.mem_append.1 hc with hc | hc
      · exact hT2.2.2 u (ne hc u huc) u (by simp [huB]) rfl
      · rcases List.mem_append.1 hc with hc | hc
        · exact hT2.2.2 w hwA w (by simp [ne hc w hwc]) rfl
        · exact hT2.2.1.2.2 u huB u (List.mem_flatten.2 ⟨c,hc,huc⟩) rfl
  · have hbr : b∈rest.flatten:=by
      have:=(h1.mem b).2 hb
      rw [List.flatten_cons,List.mem_append,List.mem_cons] at this
      rcases this with (e | e) | e
      · exact absurd e.symm hab
      · exact absurd e hbA
      · exact e
    obtain ⟨B,rest',hl2,h2⟩:=h1.front2 hbr
    have pB : Pth f b B b:=h2.cy (b :: B) (by simp)
    obtain ⟨_,haT,hbT,hT,hm⟩:=h2.left (T:=A++(B++rest'.flatten)) (a:=a) (b:=b) (by
      rw [List.flatten_cons,List.flatten_cons]
      simp only [List.cons_append]
      exact (List.perm_middle).cons a)
    have hTg : ∀ y∈A++(B++rest'.flatten),g y=cutF f a b y:=fun y hy => hg y ((hD y).2 ((hm y).1 hy))
    simp only [List.mem_append,not_or] at haT hbT
    have hnot : ¬ ∃ c∈cs,a∈c∧b∈c:=by
      rintro ⟨d,hd,had,hbd⟩
      have:=(hcA b).1 ((h.cy d hd).sub (h.cy c hc) had hac b hbd)
      rcases List.mem_cons.1 this with e | e
      · exact hab e.symm
      · exact hbA e
    -- a step from A,from B
    have gA : ∀ z∈A,f z≠a→g z=f z:=by
      intro z hz hne
      rw [hTg z (by simp [hz])]; unfold cutF
      rw [if_neg hne,if_neg]
      intro e
      have:=(show Cy f (a :: A) from pA).step (show z∈a :: A by simp [hz])
      rw [e] at this
      rcases List.mem_cons.1 this with e | e
      · exact hab e.symm
      · exact hbA e
    have gB : ∀ z∈B,f z≠b→g z=f z:=by
      intro z hz hne
      rw [hTg z (by simp [hz])]; unfold cutF
      rw [if_neg,if_neg hne]
      intro e
      have:=(show Cy f (b :: B) from pB).step (show z∈b :: B by simp [hz])
      rw [e] at this
      rcases List.mem_cons.1 this with e | e
      · exact hab e
      · exact haT.2.1 e
    have cAB : ∀ c∈neL (A++B),Cy g c:=by
      intro c hc
      cases A with
      | nil => cases B with
        | nil => cases hc
        | cons x r =>
          have : c=x :: r:=by simpa [neL] using hc
          subst this
          obtain ⟨e1,e2⟩:=pB
          refine Pth.change e2 (fun hm => hbT.2.1 (by simp [hm])) (fun z hz hne => gB z hz hne) (fun z hz he => ?_)
          rw [hTg z (by simp only [List.mem_append]; exact .inr (.inl hz))]; unfold cutF
          rw [if_neg (by rw [he]; exact fun e => hab e.symm),if_pos he,if_pos (show f a=a from pA),e1]
      | cons x r =>
        obtain ⟨e1,e2⟩:=pA
        have hax : f a≠a:=by rw [e1]; rintro rfl; exact haT.1 (by simp)
        cases B with
        | nil =>
          have : c=x :: r:=by simpa [neL] using hc
          subst this
          refine Pth.change e2 (fun hm => haT.1 (by simp [hm])) (fun z hz hne => gA z hz hne) (fun z hz he => ?_)
          rw [hTg z (by simp only [List.mem_append]; exact .inl hz)]; unfold cutF
          rw [if_pos he,if_pos (show f b=b from pB),e1]
        | cons y s =>
          have : c=x :: (r++y :: s):=by simpa [neL] using hc
          subst this
          obtain ⟨e3,e4⟩:=pB
          have hby : f b≠b:=by rw [e3]; rintro rfl; exact hbT.2.1 (by simp)
          refine Pth.app.2 ⟨?_,?_⟩
          · refine Pth.change e2 (fun hm => haT.1 (by simp [hm])) (fun z hz hne => gA z hz hne) (fun z hz he => ?_)
            rw [hTg z (by simp only [List.mem_append]; exact .inl hz)]; unfold cutF
            rw [if_pos he,if_neg hby,e3]
          · refine Pth.change e4 (fun hm => hbT.2.1 (by simp [hm])) (fun z hz hne => gB z hz hne) (fun z hz he => ?_)
            rw [hTg z (by simp only [List.mem_append]; exact .inr (.inl hz))]; unfold cutF
            rw [if_neg (by rw [he]; exact fun e => hab e.symm),if_pos he,if_neg hax,e1]
    have rstep : ∀ z∈rest'.flatten,f z∈rest'.flatten:=fun z hz => by
      obtain ⟨d,hd,hzd⟩:=List.mem_flatten.1 hz
      exact List.mem_flatten.2 ⟨d,hd,(h2.cy d (by simp [hd])).step hzd⟩
    have inA : ∀ u∈D',f u=a→u∈A:=fun u hu e => by
      have hT':=(hm u).2 ((hD u).1 hu)
      rcases List.mem_append.1 hT' with h | h
      · exact h
      · exfalso
        rcases List.mem_append.1 h with h | h
        · have := (show Cy f (b :: B) from pB).step (show u ∈ b :: B by simp [h])
          rw [e] at this
          rcases List.mem_cons.1 this with e' | e'
          · exact hab e'
          · exact haT.2.1 e'
        · have := rstep u h
          rw [e] at this
          exact haT.2.2 this
    have inB : ∀ u∈D',f u=b→u∈B:=fun u hu e => by
      have hT':=(hm u).2 ((hD u).1 hu)
      rcases List.mem_append.1 hT' with h | h
      · exfalso
        have:=(show Cy f (a :: A) from pA).step (show u∈a :: A by simp [h])
        rw [e] at this
        rcases List.mem_cons.1 this with e' | e'
        · exact hab e'.symm
        · exact hbT.1 e'
      · rcases List.mem_append.1 h with h | h
        · exact h
        · have := rstep u h
          rw [e] at this
          exact absurd this hbT.2.2
    refine ⟨neL (A++B)++rest',⟨fun c hc => ?_,?_,fun y => ?_⟩,.inr ⟨hnot,?_,?_⟩⟩
    · rcases List.mem_append.1 hc with hc | hc
      · exact cAB c hc
      · have hin : ∀ y ∈ c, y ∈ rest'.flatten := fun y hy => List.mem_flatten.2 ⟨c, hc, hy⟩
        exact (h2.cy c (by simp [hc])).cutCongr (fun hm => haT.2.2 (hin _ hm)) (fun hm => hbT.2.2 (hin _ hm)) fun y hy => hTg y (by simp [hin y hy])
    · simpa [neL_flat] using hT
    · rw [hD,← hm y]; simp [neL_flat]
    · rw [hlen, hl2]
      have k1 : (f a=a)↔A=[]:=by
        constructor
        · intro e
          cases A with
          | nil => rfl
          | cons x r => exact absurd (show a∈x :: r by have:=pA.1; rw [e] at this; rw [this]; simp) haT.1
        · rintro rfl; exact pA
      have k2 : (f b=b)↔B=[]:=by
        constructor
        · intro e
          cases B with
          | nil => rfl
          | cons x r => exact absurd (show b∈x :: r by have:=pB.1; rw [e] at this; rw [this]; simp) hbT.2.1
        · rintro rfl; exact pB
      simp only [k1,k2]
      cases A<;>cases B<;>simp [neL]<;>omega
    · intro u hu w hw eu ew
      have huA:=inA u hu eu
      have hwB:=inB w hw ew
      refine ⟨A++B,?_,by simp [huA],by simp [hwB]⟩
      cases A with
      | nil => cases huA
      | cons x r => simp [neL]
/-! ### orbits -/
def it {α : Type} (f : α→α) : Nat→α→α
  | 0,x => x
  | n+1,x => f (it f n x)
theorem it_add {α : Type} (f : α→α) (m : Nat) (x : α) : ∀ n : Nat,it f (m+n) x=it f n (it f m x)
  | 0 => rfl
  | n+1 => by show f (it f (m+n) x)=f (it f n (it f m x)); rw [it_add f m x n]
theorem it_mem {α : Type} {f : α→α} {D : List α} (hf : ∀ x∈D,f x∈D) {x : α} (hx : x∈D) : ∀ n,it f n x∈D
  | 0 => hx
  | n+1 => hf _ (it_mem hf hx n)
theorem nodup_sub {α : Type} [DecidableEq α] : ∀ {l D : List α},l.Nodup→(∀ x∈l,x∈D)→l.length≤D.length
  | [],D,_,_ => Nat.zero_le _
  | a :: l, D, h, hs => by
    rw [List.nodup_cons] at h
    have ha:=hs a (by simp)
    have:=nodup_sub (l:=l) (D:=D.erase a) h.2 (fun x hx => (List.mem_erase_of_ne (fun e : x=a => h.1 (by rw [← e]; exact hx))).2 (hs x (by simp [hx])))
    rw [List.length_erase_of_mem ha] at this
    have:=List.length_pos_of_mem ha
    simp; omega
structure OneOne {α : Type} (f : α→α) (D : List α) : Prop where
  mem : ∀ x∈D,f x∈D
  inj : ∀ x∈D,∀ y∈D,f x=f y→x=y
theorem OneOne.back {α : Type} {f : α→α} {D : List α} (h : OneOne f D) {x y : α} (hx : x∈D) (hy : y∈D) : ∀ {n : Nat},it f n x=it f n y→x=y
  | 0,e => e
  | n+1,e => h.back hx hy (h.inj _ (it_mem h.mem hx n) _ (it_mem h.mem hy n) e)
theorem OneOne.comes {α : Type} [DecidableEq α] {f : α→α} {D : List α} (h : OneOne f D) {x : α} (hx : x∈D) : ∃ k,k < D.length∧it f (k+1) x=x:=by
  by_cases hn : ∃ i j,i < j∧j≤D.length∧it f i x=it f j x
  · obtain ⟨i, j, h1, h2, e⟩ := hn
    refine ⟨j - i - 1,by omega,?_⟩
    rw [show j=(j - i - 1+1)+i by omega,it_add] at e
    exact (h.back hx (it_mem h.mem hx _) e).symm
  · have hnd : ((List.range (D.length+1)).map fun i => it f i x).Nodup:=by
      rw [List.Nodup,List.pairwise_iff_getElem]
      intro i j hi hj hij
      simp only [List.length_map,List.length_range] at hi hj
      simp only [List.getElem_map,List.getElem_range]
      exact fun e => hn ⟨i,j,hij,by omega,e⟩
    have:=nodup_sub hnd (D:=D) (fun y hy => by
      obtain ⟨i,_,rfl⟩:=List.mem_map.1 hy
      exact it_mem h.mem hx i)
    simp at this
    omega
def per {α : Type} [DecidableEq α] (f : α→α) (n : Nat) (x : α) : Nat:=(List.range n).findIdx fun k => decide (it f (k+1) x=x)
def orb {α : Type} [DecidableEq α] (f : α→α) (n : Nat) (x : α) : List α:=(List.range (per f n x+1)).map fun i => it f i x
theorem per_not {α : Type} [DecidableEq α] {f : α→α} {n : Nat} {x : α} {i : Nat} (h : i < per f n x) : it f (i+1) x≠x:=by
  have hi : i < n:=by
    have : per f n x≤(List.range n).length:=List.findIdx_le_length
    rw [List.length_range] at this; omega
  have:=findIdx_not (l:=List.range n) h (by rw [List.length_range]; exact hi)
  simpa using this
theorem OneOne.per_lt {α : Type} [DecidableEq α] {f : α→α} {D : List α} (h : OneOne f D) {x : α} (hx : x∈D) {n : Nat} (hn : D.length≤n) : per f n x < D.length∧it f (per f n x+1) x=x:=by
  obtain ⟨k,hk,e⟩:=h.comes hx
  have hle : per f n x≤k:=by
    rcases Nat.lt_or_ge k (per f n x) with hlt | hge
    · exact absurd e (per_not hlt)
    · exact hge
  refine ⟨by omega,?_⟩
  rcases findIdx_cases (fun k => decide (it f (k+1) x=x)) (List.range n) with e0 | ⟨hlt,hp⟩
  · exfalso
    have : per f n x=n:=by unfold per; rw [e0,List.length_range]
    omega
  · simp only [List.getElem_range, decide_eq_true_eq] at hp
    exact hp
theorem orb_len {α : Type} [DecidableEq α] (f : α→α) (n : Nat) (x : α) : (orb f n x).length=per f n x+1:=by unfold orb; simp
theorem orb_get {α : Type} [DecidableEq α] (f : α→α) (n : Nat) (x : α) {i : Nat} (h : i < (orb f n x).length) : (orb f n x)[i]=it f i x:=by
  have e : (orb f n x)[i]?=some (it f i x):=by
    rw [orb_len] at h
    unfold orb
    rw [List.getElem?_map,List.getElem?_range h]; rfl
  exact (List.getElem?_eq_some_iff.1 e).2
theorem pth_it {α : Type} (f : α→α) (x : α) : ∀ k,Pth f x ((List.range k).map fun i => it f (i+1) x) (it f (k+1) x)
  | 0 => rfl
  | k + 1 => by
    rw [List.range_succ,List.map_append]
    exact Pth.app.2 ⟨pth_it f x k,rfl⟩
theorem OneOne.orb_cy {α : Type} [DecidableEq α] {f : α→α} {D : List α} (h : OneOne f D) {x : α} (hx : x∈D) {n : Nat} (hn : D.length≤n) : Cy f (orb f n x):=by
  have e : orb f n x=x :: (List.range (per f n x)).map fun i => it f (i+1) x:=by
    unfold orb
    rw [List.range_succ_eq_map,List.map_cons,List.map_map]; rfl
  rw [e]
  have:=pth_it f x (per f n x)
  rw [(h.per_lt hx hn).2] at this
  exact this
theorem OneOne.orb_nd {α : Type} [DecidableEq α] {f : α→α} {D : List α} (h : OneOne f D) {x : α} (hx : x∈D) (n : Nat) : (orb f n x).Nodup:=by
  rw [List.Nodup,List.pairwise_iff_getElem]
  intro i j hi hj hij e
  rw [orb_get,orb_get] at e
  rw [orb_len] at hj
  rw [show j=(j - i - 1+1)+i by omega,it_add] at e
  exact per_not (show j - i - 1 < per f n x by omega) (h.back hx (it_mem h.mem hx _) e).symm
theorem orb_self {α : Type} [DecidableEq α] (f : α→α) (n : Nat) (x : α) : x∈orb f n x:=by
  unfold orb; rw [List.mem_map]; exact ⟨0,by simp,rfl⟩
theorem OneOne.orb_in {α : Type} [DecidableEq α] {f : α→α} {D : List α} (h : OneOne f D) {x : α} (hx : x∈D) (n : Nat) : ∀ y∈orb f n x,y∈D:=by
  intro y hy
  unfold orb at hy
  obtain ⟨i,_,rfl⟩:=List.mem_map.1 hy
  exact it_mem h.mem hx i
def cycF {α : Type} [DecidableEq α] (f : α→α) (n : Nat) : List α→List α→List (List α)
  | [],_ => []
  | x :: xs,told => if x∈told then cycF f n xs told else orb f n x :: cycF f n xs (told++orb f n x)
theorem OneOne.cycF {α : Type} [DecidableEq α] {f : α→α} {D : List α} (h : OneOne f D) {n : Nat} (hn : D.length≤n) : ∀ (xs told : List α),(∀ x∈xs,x∈D)→(∀ y∈told,f y∈told)→told.Nodup →
    (∀ c∈cycF f n xs told,Cy f c)∧(told++(cycF f n xs told).flatten).Nodup∧(∀ y∈(cycF f n xs told).flatten,y∈D)∧∀ y∈xs,y∈told++(cycF f n xs told).flatten
  | [],told,_,_,ht => by simp [Sx.cycF,ht]
  | x :: xs, told, hx, hc, ht => by
    have hxD:=hx x (by simp)
    unfold Sx.cycF
    split
    · rename_i hxt
      obtain ⟨a,b,c,d⟩:=OneOne.cycF h hn xs told (fun y hy => hx y (by simp [hy])) hc ht
      refine ⟨a,b,c,fun y hy => ?_⟩
      rcases List.mem_cons.1 hy with rfl | hy
      · exact List.mem_append.2 (.inl hxt)
      · exact d y hy
    · rename_i hxt
      have hcy:=h.orb_cy hxD hn
      have hdis : ∀ y∈told,y∉orb f n x:=fun y hy hyo => hxt (hcy.within (S:=fun z => z∈told) hc hyo hy x (orb_self f n x))
      obtain ⟨a,b,c,d⟩:=OneOne.cycF h hn xs (told++orb f n x) (fun y hy => hx y (by simp [hy])) (fun y hy => by
        rcases List.mem_append.1 hy with hy | hy
        · exact List.mem_append.2 (.inl (hc y hy))
        · exact List.mem_append.2 (.inr (hcy.step hy))) (by
        rw [List.nodup_append]
        exact ⟨ht,h.orb_nd hxD n,fun y hy z hz e => hdis y hy (e ▸ hz)⟩)
      refine ⟨fun e he => ?_,by rw [List.flatten_cons,← List.append_assoc]; exact b,fun y hy => ?_,fun y hy => ?_⟩
      · rcases List.mem_cons.1 he with rfl | he
        · exact hcy
        · exact a e he
      · rw [List.flatten_cons] at hy
        rcases List.mem_append.1 hy with hy | hy
        · exact h.orb_in hxD n y hy
        · exact c y hy
      · rw [List.flatten_cons, ← List.append_assoc]
        rcases List.mem_cons.1 hy with rfl | hy
        · exact List.mem_append.2 (.inl (List.mem_append.2 (.inr (orb_self f n _))))
        · exact d y hy
theorem OneOne.dec {α : Type} [DecidableEq α] {f : α→α} {D : List α} (h : OneOne f D) {n : Nat} (hn : D.length≤n) : Dec f D (Sx.cycF f n D []):=by
  obtain ⟨a,b,c,d⟩:=h.cycF hn D [] (fun _ h => h) (fun y hy => by cases hy) (by simp)
  exact ⟨a,b,fun x => ⟨c x,d x⟩⟩
end Go.Proofs.Ytcecojdeljbjoaa.Sx
namespace Go.Proofs.Ytcecojdeljbjoaa.Sx
def sigD (l : List Vx) (x : Dart) : Dart:=match atBy l x with | some v => nextD v.ring x | none => Dart0
def phiD (l : List Vx) (x : Dart) : Dart:=sigD l (othD x)
theorem othD_dartsE {es : List Ed} {x : Dart} : othD x∈dartsE es↔x∈dartsE es:=by
  have key : ∀ x : Dart,x∈dartsE es→othD x∈dartsE es:=fun x hx => by
    obtain ⟨e,he,h⟩:=dartsE_mem.1 hx
    refine dartsE_mem.2 ⟨e,he,?_⟩
    rcases h with rfl | rfl
    · right; rfl
    · left; rfl
  exact ⟨fun h => by have:=key _ h; rwa [othD_othD] at this,key x⟩
theorem othD_ne_of {es : List Ed} {x : Dart} (h : x∈dartsE es) : othD x≠x:=by
  obtain ⟨e,_,h⟩:=dartsE_mem.1 h
  rcases h with rfl | rfl<;>(unfold othD; simp)
structure Pr (l : List Vx) : Prop where
  nd : (allR l).Nodup
  oth : ∀ x∈allR l,othD x∈allR l
  ne : ∀ x∈allR l,othD x≠x
theorem WF.pr {l : List Vx} {es : List Ed} (h : WF l es) : Pr l :=
  ⟨h.nd,fun x hx => (h.mem _).2 (othD_dartsE.2 ((h.mem x).1 hx)),fun x hx => othD_ne_of ((h.mem x).1 hx)⟩
/-! ### the next one in a ring -/
theorem nextD_mem {r : List Dart} {x : Dart} (h : x∈r) : nextD r x∈r:=by
  have hp:=List.length_pos_of_mem h
  unfold nextD; rw [byD_ga h]; exact ga_mem hp _
theorem nextD_inj {r : List Dart} (hn : r.Nodup) {x y : Dart} (hx : x∈r) (hy : y∈r) (e : nextD r x=nextD r y) : x=y:=by
  have hp:=List.length_pos_of_mem hx
  unfold nextD at e
  rw [byD_ga hx,byD_ga hy] at e
  have e1:=ga_inj hn hp e
  have h1:=(idxOf_at hx).1
  have h2:=(idxOf_at hy).1
  have e2 : r.idxOf x=r.idxOf y:=by
    have a : (r.idxOf x+1) % r.length=if r.idxOf x+1=r.length then 0 else r.idxOf x+1:=by
      split
      · rename_i h; rw [h,Nat.mod_self]
      · exact Nat.mod_eq_of_lt (by omega)
    have b : (r.idxOf y+1) % r.length=if r.idxOf y+1=r.length then 0 else r.idxOf y+1:=by
      split
      · rename_i h; rw [h,Nat.mod_self]
      · exact Nat.mod_eq_of_lt (by omega)
    rw [a,b] at e1
    split at e1<;>split at e1<;>omega
  rw [← ga_idx hx,← ga_idx hy,e2]
theorem nextD_snoc {w : List Dart} {a z : Dart} (hn : (w++[a]).Nodup) (hz : z∈w) : nextD w z=if nextD (w++[a]) z=a then nextD (w++[a]) a else nextD (w++[a]) z:=by
  have hnw : w.Nodup:=(List.nodup_append.1 hn).1
  have haw : a∉w:=fun h => (List.nodup_append.1 hn).2.2 a h a (by simp) rfl
  obtain ⟨h1,h2⟩:=idxOf_at hz
  have hl : (w++[a]).length=w.length+1:=by simp
  have hzi : ga w (w.idxOf z)=z:=ga_idx hz
  have hg : ∀ i (h : i < w.length),ga (w++[a]) i=w[i]:=fun i h => by rw [ga_lt (by omega),List.getElem_append_left h]
  have hge : ga (w++[a]) w.length=a:=by rw [ga_lt (by omega),List.getElem_append_right (Nat.le_refl _)]; simp
  have hpos : 0 < w.length:=by omega
  have e1 : nextD w z=ga w (w.idxOf z+1):=by unfold nextD; rw [byD_ga hz]
  have e2 : nextD (w++[a]) z=ga (w++[a]) (w.idxOf z+1):=by
    have:=nextD_ga hn (by omega) (w.idxOf z)
    rw [hg _ h1,h2] at this; exact this
  have e3 : nextD (w++[a]) a=w[0]:=by
    have:=nextD_ga hn (by omega) w.length
    rw [hge] at this
    rw [this,← ga_mod,hl,Nat.mod_self,hg 0 hpos]
  rw [e1,e2,e3]
  by_cases hlast : w.idxOf z+1=w.length
  · rw [hlast,hge,if_pos rfl,← ga_mod,Nat.mod_self,ga_lt hpos]
  · have hlt : w.idxOf z + 1 < w.length := by omega
    rw [hg _ hlt,if_neg,ga_lt hlt]
    intro e; exact haw (e ▸ List.getElem_mem hlt)
theorem nextD_erase {r : List Dart} {a z : Dart} (hn : r.Nodup) (ha : a∈r) (hz : z∈r) (hza : z≠a) : nextD (r.filter (fun y => decide (¬ y=a))) z=if nextD r z=a then nextD r a else nextD r z:=by
  obtain ⟨w,hw⟩:=ends ha
  have hnw:=hw.nodup hn
  have haw : a∉w:=fun h => (List.nodup_append.1 hnw).2.2 a h a (by simp) rfl
  have hf:=hw.filter (fun y => decide (¬ y=a))
  have e : (w++[a]).filter (fun y => decide (¬ y=a))=w:=by
    rw [List.filter_append,List.filter_eq_self.2 (fun y hy => by simp; rintro rfl; exact haw hy)]; simp
  rw [e] at hf
  have hzw : z∈w:=by
    have:=(hw.mem z).1 hz
    simp only [List.mem_append,List.mem_singleton] at this
    exact this.resolve_right hza
  have hnf : (r.filter (fun y => decide (¬ y=a))).Nodup:=hn.filter _
  rw [nextD,← byD_rot hnf hf z 1,show byD w z 1=nextD w z from rfl,nextD_snoc hnw hzw]
  unfold nextD
  rw [byD_rot hn hw z 1,byD_rot hn hw a 1]
theorem nextD_rot {r s : List Dart} (hn : r.Nodup) (h : Rot r s) (z : Dart) : nextD s z=nextD r z:=byD_rot hn h z 1
/-! ### the next one round a vertex -/
section
variable {l : List Vx}
theorem sigD_at (hn : (allR l).Nodup) {v : Vx} (hv : v∈l) {x : Dart} (hx : x∈v.ring) : sigD l x=nextD v.ring x:=by
  unfold sigD; rw [atBy_mem hn hv hx]
theorem mem_allR {v : Vx} (hv : v∈l) {x : Dart} (hx : x∈v.ring) : x∈allR l:=(allR_mem l x).2 ⟨v,hv,hx⟩
theorem sigD_mem (hn : (allR l).Nodup) {v : Vx} (hv : v∈l) {x : Dart} (hx : x∈v.ring) : sigD l x∈v.ring:=by
  rw [sigD_at hn hv hx]; exact nextD_mem hx
theorem sigD_oo (hn : (allR l).Nodup) : OneOne (sigD l) (allR l):=by
  refine ⟨fun x hx => ?_,fun x hx y hy e => ?_⟩
  · obtain ⟨v, hv, hxv⟩ := (allR_mem l x).1 hx
    exact mem_allR hv (sigD_mem hn hv hxv)
  · obtain ⟨v, hv, hxv⟩ := (allR_mem l x).1 hx
    obtain ⟨w,hw,hyw⟩:=(allR_mem l y).1 hy
    have h1:=sigD_mem hn hv hxv
    have h2:=sigD_mem hn hw hyw
    rw [e] at h1
    have hvw:=at_one hn hv hw h1 h2
    subst hvw
    rw [sigD_at hn hv hxv,sigD_at hn hv hyw] at e
    exact nextD_inj (ring_nodup hn hv) hxv hyw e
theorem phiD_oo (h : Pr l) : OneOne (phiD l) (allR l) :=
  ⟨fun x hx => (sigD_oo h.nd).mem _ (h.oth x hx),fun x hx y hy e => othD_inj ((sigD_oo h.nd).inj _ (h.oth x hx) _ (h.oth y hy) e)⟩
structure Cut (l m : List Vx) (a b : Dart) : Prop where
  len : l.length=m.length
  rot : ∀ i (h : i < l.length) (h' : i < m.length),Rot ((l[i].ring.filter (fun y => decide (¬ y=a))).filter (fun y => decide (¬ y=b))) m[i].ring
theorem Cut.mem {m : List Vx} {a b : Dart} (c : Cut l m a b) (x : Dart) : x∈allR m↔x∈allR l∧x≠a∧x≠b:=by
  rw [allR_mem,allR_mem]
  constructor
  · rintro ⟨v, hv, hx⟩
    obtain ⟨i,hi,rfl⟩:=List.mem_iff_getElem.1 hv
    have hi' : i < l.length:=by rw [c.len]; exact hi
    have:=((c.rot i hi' hi).mem x).2 hx
    rw [List.mem_filter,List.mem_filter] at this
    simp only [decide_eq_true_eq] at this
    exact ⟨⟨_,List.getElem_mem hi',this.1.1⟩,this.1.2,this.2⟩
  · rintro ⟨⟨v, hv, hx⟩, h1, h2⟩
    obtain ⟨i,hi,rfl⟩:=List.mem_iff_getElem.1 hv
    have hi' : i < m.length:=by rw [← c.len]; exact hi
    refine ⟨_,List.getElem_mem hi',((c.rot i hi hi').mem x).1 ?_⟩
    rw [List.mem_filter,List.mem_filter]
    simp only [decide_eq_true_eq]
    exact ⟨⟨hx,h1⟩,h2⟩
theorem Cut.nd {m : List Vx} {a b : Dart} (c : Cut l m a b) (hn : (allR l).Nodup) : (allR m).Nodup:=by
  have key : ∀ (l m : List Vx),Cut l m a b→∀ y,(allR m).count y≤(allR l).count y:=by
    intro l
    induction l with
    | nil =>
      intro m c y
      have : m=[]:=List.eq_nil_of_length_eq_zero (by rw [← c.len]; rfl)
      subst this; exact Nat.le_refl _
    | cons v l ih =>
      intro m c y
      cases m with
      | nil => have:=c.len; simp at this
      | cons u m =>
        have h1:=ih m ⟨by have:=c.len; simpa using this,fun i h h' => by
          have:=c.rot (i+1) (by simp; exact h) (by simp; exact h')
          simpa using this⟩ y
        have h2:=(c.rot 0 (by simp) (by simp)).count y
        simp only [List.getElem_cons_zero] at h2
        rw [allR_cons,allR_cons,List.count_append,List.count_append,← h2]
        have h3 : ((v.ring.filter (fun y => decide (¬ y=a))).filter (fun y => decide (¬ y=b))).count y≤v.ring.count y :=
          ((List.filter_sublist).trans (List.filter_sublist)).count_le y
        omega
  rw [List.nodup_iff_count]
  intro y
  exact Nat.le_trans (key l m c y) (List.nodup_iff_count.1 hn y)
theorem Cut.pr {m : List Vx} {a : Dart} (h : Pr l) (c : Cut l m a (othD a)) : Pr m:=by
  refine ⟨c.nd h.nd,fun x hx => ?_,fun x hx => h.ne x ((c.mem x).1 hx).1⟩
  obtain ⟨h1,h2,h3⟩:=(c.mem x).1 hx
  refine (c.mem _).2 ⟨h.oth x h1,fun e => h3 ?_,fun e => h2 (othD_inj e)⟩
  rw [← e,othD_othD]
theorem filter_skip {r : List Dart} {a z : Dart} (hn : r.Nodup) (hz : z∈r) (hza : z≠a) : nextD (r.filter (fun y => decide (¬ y=a))) z=if nextD r z=a then nextD r a else nextD r z:=by
  by_cases ha : a∈r
  · exact nextD_erase hn ha hz hza
  · rw [List.filter_eq_self.2 (fun y hy => by simp; rintro rfl; exact ha hy), if_neg]
    intro e; exact ha (e ▸ nextD_mem hz)
theorem Cut.sig {m : List Vx} {a b : Dart} (c : Cut l m a b) (hn : (allR l).Nodup) (hab : a≠b) {z : Dart} (hz : z∈allR m) :
    sigD m z=if sigD l z=a then (if sigD l a=b then sigD l b else sigD l a) else if sigD l z=b then (if sigD l b=a then sigD l a else sigD l b) else sigD l z:=by
  obtain ⟨hzl,hza,hzb⟩:=(c.mem z).1 hz
  obtain ⟨u,hu,hzu⟩:=(allR_mem m z).1 hz
  obtain ⟨i,hi,rfl⟩:=List.mem_iff_getElem.1 hu
  have hi' : i < l.length:=by rw [c.len]; exact hi
  have hr:=c.rot i hi' hi
  have hv:=List.getElem_mem hi'
  generalize l[i]=v at hr hv
  have hnr:=ring_nodup hn hv
  have hzf:=(hr.mem z).2 hzu
  have hn2 : (v.ring.filter (fun y => decide (¬ y=a))).Nodup:=hnr.filter _
  have hz1 : z∈v.ring.filter (fun y => decide (¬ y=a)):=(List.mem_filter.1 hzf).1
  have hzv : z∈v.ring:=(List.mem_filter.1 hz1).1
  rw [sigD_at (c.nd hn) hu hzu,nextD_rot (hn2.filter _) hr,filter_skip hn2 hz1 hzb,filter_skip hnr hzv hza,sigD_at hn hv hzv]
  have inj : ∀ x∈v.ring,nextD v.ring x=nextD v.ring z→x=z:=fun x hx e => nextD_inj hnr hx hzv e
  by_cases h1 : nextD v.ring z=a
  · have hav : a ∈ v.ring := h1 ▸ nextD_mem hzv
    rw [if_pos h1,if_pos h1,sigD_at hn hv hav]
    by_cases h2 : nextD v.ring a=b
    · have hbv : b ∈ v.ring := h2 ▸ nextD_mem hav
      have hb1 : b∈v.ring.filter (fun y => decide (¬ y=a)):=List.mem_filter.2 ⟨hbv,by simpa using fun e => hab e.symm⟩
      rw [if_pos h2,if_pos h2,filter_skip hnr hbv (fun e => hab e.symm),sigD_at hn hv hbv,if_neg]
      intro e; exact hzb (inj b hbv (by rw [e,h1])).symm
    · rw [if_neg h2,if_neg h2]
  · rw [if_neg h1, if_neg h1]
    by_cases h2 : nextD v.ring z=b
    · have hbv : b ∈ v.ring := h2 ▸ nextD_mem hzv
      rw [if_pos h2,if_pos h2,filter_skip hnr hbv (fun e => hab e.symm),sigD_at hn hv hbv]
      by_cases h3 : nextD v.ring b=a
      · have hav : a ∈ v.ring := h3 ▸ nextD_mem hbv
        rw [if_pos h3,if_pos h3,sigD_at hn hv hav]
      · rw [if_neg h3,if_neg h3]
    · rw [if_neg h2,if_neg h2]
theorem Cut.phi {m : List Vx} {a : Dart} (h : Pr l) (c : Cut l m a (othD a)) (ha : a∈allR l) {y : Dart} (hy : y∈allR m) : phiD m y=cutF (phiD l) a (othD a) y:=by
  have hab : a≠othD a:=(h.ne a ha).symm
  have e1 : phiD l y=sigD l (othD y):=rfl
  have e2 : phiD l a=sigD l (othD a):=rfl
  have e3 : phiD l (othD a)=sigD l a:=by show sigD l (othD (othD a))=_; rw [othD_othD]
  unfold cutF
  rw [e1,e2,e3]
  exact c.sig h.nd hab ((c.pr h).oth y hy)
/-! ### vertices alone -/
def aloneN (l : List Vx) : Nat:=l.countP fun v => v.ring.isEmpty
def emptyN (r : List Dart) : Nat:=if r=[] then 1 else 0
theorem alone_cons (v : Vx) (l : List Vx) : aloneN (v :: l)=aloneN l+emptyN v.ring:=by
  unfold aloneN emptyN
  rw [List.countP_cons]
  cases v.ring<;>simp
theorem filt2 {r : List Dart} (hn : r.Nodup) {a b : Dart} (hab : a≠b) : emptyN ((r.filter (fun y => decide (¬ y=a))).filter (fun y => decide (¬ y=b))) =
    emptyN r+(if r=[a] then 1 else 0)+(if r=[b] then 1 else 0)+(if r=[a,b]∨r=[b,a] then 1 else 0):=by
  have key : ∀ x∈r,x≠a→x≠b→((r.filter (fun y => decide (¬ y=a))).filter (fun y => decide (¬ y=b)))≠[]:=fun x hx h1 h2 e => by
    have : x∈(r.filter (fun y => decide (¬ y=a))).filter (fun y => decide (¬ y=b)):=by
      rw [List.mem_filter,List.mem_filter]; exact ⟨⟨hx,by simpa using h1⟩,by simpa using h2⟩
    rw [e] at this; cases this
  unfold emptyN
  match r,hn,key with
  | [],_,_ => simp
  | [x], _, key =>
    by_cases h1 : x=a
    · subst h1; simp [hab]
    · by_cases h2 : x = b
      · subst h2; simp [h1]
      · rw [if_neg (key x (by simp) h1 h2)]; simp [h1,h2]
  | [x, y], hn, key =>
    have hxy : x≠y:=by simp at hn; exact hn
    by_cases h1 : x=a
    · subst h1
      by_cases h2 : y=b
      · subst h2; simp [hab,Ne.symm hab]
      · rw [if_neg (key y (by simp) (Ne.symm hxy) h2)]
        simp [h2,hab]
    · by_cases h2 : x = b
      · subst h2
        by_cases h3 : y=a
        · subst h3; simp [h1]
        · rw [if_neg (key y (by simp) h3 (Ne.symm hxy))]; simp [h1,h3]
      · rw [if_neg (key x (by simp) h1 h2)]; simp [h1,h2]
  | x :: y :: z :: r, hn, key =>
    have h : ∃ w∈x :: y :: z :: r,w≠a∧w≠b:=by
      simp only [List.nodup_cons,List.mem_cons,not_or] at hn
      by_cases h1 : x=a∨x=b
      · by_cases h2 : y = a ∨ y = b
        · refine ⟨z, by simp, ?_⟩
          obtain ⟨⟨n1,n2,_⟩,⟨n3,_⟩,_⟩:=hn
          rcases h1 with rfl | rfl<;>rcases h2 with rfl | rfl
          · exact absurd rfl n1
          · exact ⟨Ne.symm n2,Ne.symm n3⟩
          · exact ⟨Ne.symm n3,Ne.symm n2⟩
          · exact absurd rfl n1
        · exact ⟨y,by simp,fun e => h2 (.inl e),fun e => h2 (.inr e)⟩
      · exact ⟨x,by simp,fun e => h1 (.inl e),fun e => h1 (.inr e)⟩
    obtain ⟨w,hw,h1,h2⟩:=h
    rw [if_neg (key w hw h1 h2)]; simp
theorem alone_sum {a b : Dart} (hab : a≠b) : ∀ {l m : List Vx},Cut l m a b→(allR l).Nodup →
    aloneN m=aloneN l+l.countP (fun v => decide (v.ring=[a]))+l.countP (fun v => decide (v.ring=[b]))+l.countP (fun v => decide (v.ring=[a,b]∨v.ring=[b,a]))
  | [], m, c, _ => by
    have : m=[]:=List.eq_nil_of_length_eq_zero (by rw [← c.len]; rfl)
    subst this; rfl
  | v :: l,[],c,_ => by have:=c.len; simp at this
  | v :: l, u :: m, c, hn => by
    have hnl : (allR l).Nodup:=by rw [allR_cons,List.nodup_append] at hn; exact hn.2.1
    have ih:=alone_sum hab (l:=l) (m:=m) ⟨by have:=c.len; simpa using this,fun i h h' => by
          have:=c.rot (i+1) (by simp; exact h) (by simp; exact h')
          simpa using this⟩ hnl
    have h0:=(c.rot 0 (by simp) (by simp)).len
    simp only [List.getElem_cons_zero] at h0
    have e0 : emptyN u.ring=emptyN ((v.ring.filter (fun y => decide (¬ y=a))).filter (fun y => decide (¬ y=b))):=by
      have k : ∀ {r s : List Dart},r.length=s.length→emptyN s=emptyN r:=fun {r s} h => by
        unfold emptyN
        cases r<;>cases s<;>simp at h<;>simp
      exact k h0
    rw [alone_cons,alone_cons,ih,e0,filt2 (ring_nodup hn (by simp)) hab]
    simp only [List.countP_cons,decide_eq_true_eq]
    omega
theorem countP_ring {p : Vx→Bool} {a : Dart} (hn : (allR l).Nodup) (hp : ∀ v∈l,p v=true→a∈v.ring) : l.countP p=if ∃ v∈l,p v=true then 1 else 0:=by
  have key : ∀ l : List Vx,(∀ v∈l,p v=true→a∈v.ring)→l.countP p≤(allR l).count a:=by
    intro l
    induction l with
    | nil => intro _; exact Nat.le_refl _
    | cons v l ih =>
      intro hp
      rw [List.countP_cons,allR_cons,List.count_append]
      have:=ih fun v hv => hp v (by simp [hv])
      split
      · rename_i h
        have:=List.count_pos_iff.2 (hp v (by simp) h)
        omega
      · omega
  have h1:=key l hp
  have h2:=List.nodup_iff_count.1 hn a
  split
  · rename_i h
    have:=List.countP_pos_iff.2 h
    omega
  · rename_i h
    have : ¬ 0 < l.countP p:=fun hc => h (List.countP_pos_iff.1 hc)
    omega
theorem next_self {r : List Dart} (hn : r.Nodup) {a : Dart} (ha : a∈r) : nextD r a=a↔r=[a]:=by
  constructor
  · intro e
    have hp:=List.length_pos_of_mem ha
    unfold nextD at e
    rw [byD_ga ha] at e
    have e1:=ga_inj hn hp (e.trans (ga_idx ha).symm)
    have h1:=(idxOf_at ha).1
    rw [Nat.mod_eq_of_lt h1] at e1
    have hl : r.length=1:=by
      by_cases h : r.idxOf a+1 < r.length
      · rw [Nat.mod_eq_of_lt h] at e1; omega
      · have : r.idxOf a + 1 = r.length := by omega
        rw [this,Nat.mod_self] at e1; omega
    obtain ⟨x,rfl⟩:=List.length_eq_one_iff.1 hl
    have : a=x:=by simpa using ha
    rw [this]
  · rintro rfl
    unfold nextD; rw [byD_ga ha]; simp [ga]
theorem next_two {r : List Dart} (hn : r.Nodup) {a b : Dart} (hab : a≠b) (ha : a∈r) : (nextD r a=b∧nextD r b=a)↔(r=[a,b]∨r=[b,a]):=by
  constructor
  · rintro ⟨e1, e2⟩
    have hp:=List.length_pos_of_mem ha
    have hi : nextD r a=ga r (r.idxOf a+1):=by unfold nextD; rw [byD_ga ha]
    have e3 : ga r (r.idxOf a+2)=a:=by
      have:=nextD_ga hn hp (r.idxOf a+1)
      rw [← hi,e1,e2] at this
      exact this.symm
    have e4:=ga_inj hn hp (e3.trans (ga_idx ha).symm)
    have h1:=(idxOf_at ha).1
    rw [Nat.mod_eq_of_lt h1] at e4
    have hl : r.length≤2:=by
      rcases Nat.lt_or_ge 2 r.length with h | h
      · exfalso
        by_cases h2 : r.idxOf a+2 < r.length
        · rw [Nat.mod_eq_of_lt h2] at e4; omega
        · rw [Nat.mod_eq_sub_mod (by omega),Nat.mod_eq_of_lt (by omega)] at e4; omega
      · exact h
    have hb : b∈r:=e1 ▸ nextD_mem ha
    match r,hl,hn,ha,hb with
    | [x], _, _, ha, hb =>
      have h1 : a=x:=by simpa using ha
      have h2 : b=x:=by simpa using hb
      exact absurd (h1.trans h2.symm) hab
    | [x, y], _, _, ha, hb =>
      simp only [List.mem_cons,List.not_mem_nil,or_false] at ha hb
      rcases ha with rfl | rfl<;>rcases hb with rfl | rfl
      · exact absurd rfl hab
      · left; rfl
      · right; rfl
      · exact absurd rfl hab
  · have g2 : ∀ x y : Dart,x≠y→nextD [x,y] x=y∧nextD [x,y] y=x:=by
      intro x y h
      have hnn : [x,y].Nodup:=by simp [h]
      have a0:=nextD_ga hnn (by simp) 0
      have a1:=nextD_ga hnn (by simp) 1
      have g0 : ga [x,y] 0=x:=rfl
      have g1 : ga [x,y] 1=y:=rfl
      have g2 : ga [x,y] (1+1)=x:=by unfold ga; simp
      rw [g0,g1] at a0
      rw [g1,g2] at a1
      exact ⟨a0,a1⟩
    rintro (rfl | rfl)
    · exact g2 a b hab
    · exact (g2 b a (Ne.symm hab)).symm
theorem Cut.alone {m : List Vx} {a b : Dart} (hn : (allR l).Nodup) (hab : a≠b) (ha : a∈allR l) (hb : b∈allR l) (c : Cut l m a b) :
    aloneN m=aloneN l+(if sigD l a=a then 1 else 0)+(if sigD l b=b then 1 else 0)+(if sigD l a=b∧sigD l b=a then 1 else 0):=by
  have k1 : ∀ x,x∈allR l→((∃ v∈l,decide (v.ring=[x])=true)↔sigD l x=x):=fun x hx => by
    obtain ⟨v,hv,hxv⟩:=(allR_mem l x).1 hx
    rw [sigD_at hn hv hxv,next_self (ring_nodup hn hv) hxv]
    constructor
    · rintro ⟨w, hw, h⟩
      have h : w.ring=[x]:=of_decide_eq_true h
      rwa [at_one hn hv hw hxv (by rw [h]; simp)]
    · intro h; exact ⟨v,hv,decide_eq_true h⟩
  have k2 : (∃ v∈l,decide (v.ring=[a,b]∨v.ring=[b,a])=true)↔sigD l a=b∧sigD l b=a:=by
    obtain ⟨v,hv,hav⟩:=(allR_mem l a).1 ha
    constructor
    · rintro ⟨w, hw, h⟩
      have h:=of_decide_eq_true h
      have haw : a∈w.ring:=by rcases h with h | h<;>rw [h]<;>simp
      have hbw : b∈w.ring:=by rcases h with h | h<;>rw [h]<;>simp
      rw [sigD_at hn hw haw,sigD_at hn hw hbw]
      exact (next_two (ring_nodup hn hw) hab haw).2 h
    · rintro ⟨h1, h2⟩
      have hbv : b∈v.ring:=h1 ▸ sigD_mem hn hv hav
      rw [sigD_at hn hv hav] at h1
      rw [sigD_at hn hv hbv] at h2
      exact ⟨v,hv,decide_eq_true ((next_two (ring_nodup hn hv) hab hav).1 ⟨h1,h2⟩)⟩
  rw [alone_sum hab c hn,countP_ring (a:=a) hn (fun v _ h => by rw [of_decide_eq_true h]; simp),countP_ring (a:=b) hn (fun v _ h => by rw [of_decide_eq_true h]; simp),
    countP_ring (a:=a) hn (fun v _ h => by rcases of_decide_eq_true h with h | h<;>rw [h]<;>simp)]
  simp only [k1 a ha,k1 b hb,k2]
end
/-! ### faces -/
def trD (l : List Vx) (x : Dart) : List Dart:=orb (phiD l) 100 x
end Go.Proofs.Ytcecojdeljbjoaa.Sx
namespace Go.Proofs.Ytcecojdeljbjoaa.Sx
/-! ### what an edge less does to the faces -/
theorem Dec.faces {l m : List Vx} {a : Dart} (h : Pr l) (ha : a∈allR l) (c : Cut l m a (othD a)) {cs : List (List Dart)} (hc : Dec (phiD l) (allR l) cs) :
    ∃ cs',Dec (phiD m) (allR m) cs'∧((∃ c∈cs,a∈c∧othD a∈c)∧cs'.length+aloneN m=cs.length+aloneN l+1∧(∀ u∈allR m,∀ w∈allR m,phiD l u=a→phiD l w=othD a→¬ ∃ c∈cs',u∈c∧w∈c) ∨
      (¬ ∃ c∈cs,a∈c∧othD a∈c)∧cs'.length+aloneN m+1=cs.length+aloneN l∧(∀ u∈allR m,∀ w∈allR m,phiD l u=a→phiD l w=othD a→∃ c∈cs',u∈c∧w∈c)):=by
  have hb:=h.oth a ha
  have hab : a≠othD a:=(h.ne a ha).symm
  have hal:=c.alone h.nd hab ha hb
  have e1 : phiD l a=sigD l (othD a):=rfl
  have e2 : phiD l (othD a)=sigD l a:=by unfold phiD; rw [othD_othD]
  obtain ⟨cs',hd,hcase⟩:=hc.cut (g:=phiD m) (D':=allR m) ha hb hab (fun x => c.mem x) (fun y hy => c.phi h ha hy)
  refine ⟨cs',hd,?_⟩
  rw [e1,e2] at hcase
  have two : (∃ c∈cs,a∈c∧othD a∈c)→¬ (sigD l a=othD a∧sigD l (othD a)=a):=by
    rintro ⟨c,hcc,h1,h2⟩ ⟨h3,h4⟩
    exact hab ((hc.cy c hcc).within (S:=fun z => z=a) (fun z hz => by rw [hz,e1,h4]) h1 rfl _ h2).symm
  have one : (¬ ∃ c∈cs,a∈c∧othD a∈c)→sigD l a≠a∧sigD l (othD a)≠othD a:=by
    intro hn
    constructor
    · intro h3
      obtain ⟨c,hcc,h1⟩:=List.mem_flatten.1 ((hc.mem _).2 hb)
      have:=(hc.cy c hcc).step h1
      rw [e2,h3] at this
      exact hn ⟨c,hcc,this,h1⟩
    · intro h3
      obtain ⟨c,hcc,h1⟩:=List.mem_flatten.1 ((hc.mem _).2 ha)
      have:=(hc.cy c hcc).step h1
      rw [e1,h3] at this
      exact hn ⟨c,hcc,h1,this⟩
  rcases hcase with ⟨hs,he,hx⟩ | ⟨hs,he,hx⟩
  · refine .inl ⟨hs, ?_, hx⟩
    rw [hal,if_neg (two hs)]
    omega
  · refine .inr ⟨hs, ?_, hx⟩
    have k:=one hs
    rw [hal,if_neg k.1,if_neg k.2]
    have : (if sigD l (othD a)=a∧sigD l a=othD a then 1 else 0)=(if sigD l a=othD a∧sigD l (othD a)=a then 1 else 0):=by
      simp only [and_comm]
    omega
/-! ### which vertices an edge joins -/
theorem ringAt_lt {l : List Vx} {u : Nat} (h : u < l.length) : ringAt l u=l[u].ring:=by
  unfold ringAt; rw [List.getD_eq_getElem?_getD,List.getElem?_eq_getElem h]; rfl
theorem ringAt_mem {l : List Vx} {u : Nat} {x : Dart} (h : x∈ringAt l u) : u < l.length:=by
  rcases Nat.lt_or_ge u l.length with h1 | h1
  · exact h1
  · unfold ringAt at h
    rw [List.getD_eq_getElem?_getD,List.getElem?_eq_none h1] at h
    cases h
theorem stepV_symm {l : List Vx} (u w : Nat) (h : stepV l u w) : stepV l w u:=by
  obtain ⟨x,h1,h2⟩:=h
  exact ⟨othD x,h2,by rw [othD_othD]; exact h1⟩
theorem at_ring {l : List Vx} {x : Dart} (h : x∈allR l) : ∃ u,u < l.length∧x∈ringAt l u:=by
  obtain ⟨v,hv,hx⟩:=(allR_mem l x).1 h
  obtain ⟨i,hi,rfl⟩:=List.mem_iff_getElem.1 hv
  exact ⟨i,hi,by rw [ringAt_lt hi]; exact hx⟩
theorem ringAt_all {l : List Vx} {u : Nat} {x : Dart} (h : x∈ringAt l u) : x∈allR l:=by
  have hu:=ringAt_mem h
  rw [ringAt_lt hu] at h
  exact mem_allR (List.getElem_mem hu) h
theorem ringAt_one {l : List Vx} (hn : (allR l).Nodup) {u w : Nat} {x : Dart} (h : x∈ringAt l u) (k : x∈ringAt l w) : u=w:=by
  have hu:=ringAt_mem h
  have hw:=ringAt_mem k
  rw [ringAt_lt hu] at h
  rw [ringAt_lt hw] at k
  exact ring_one hn hu hw h k
theorem sig_ringAt {l : List Vx} (hn : (allR l).Nodup) {u : Nat} {x : Dart} (h : x∈ringAt l u) : sigD l x∈ringAt l u:=by
  have hu:=ringAt_mem h
  rw [ringAt_lt hu] at h ⊢
  exact sigD_mem hn (List.getElem_mem hu) h
theorem Cut.rings {l m : List Vx} {a b : Dart} (c : Cut l m a b) {u : Nat} {x : Dart} : x∈ringAt m u↔x∈ringAt l u∧x≠a∧x≠b:=by
  have key : ∀ (hu : u < l.length) (hu' : u < m.length),x∈m[u].ring↔x∈l[u].ring∧x≠a∧x≠b:=fun hu hu' => by
    rw [← (c.rot u hu hu').mem x,List.mem_filter,List.mem_filter]
    simp only [decide_eq_true_eq,and_assoc]
  constructor
  · intro h
    have hu:=ringAt_mem h
    have hu2 : u < l.length:=by rw [c.len]; exact hu
    rw [ringAt_lt hu] at h
    rw [ringAt_lt hu2]
    exact (key hu2 hu).1 h
  · rintro ⟨h, h1, h2⟩
    have hu:=ringAt_mem h
    have hu2 : u < m.length:=by rw [← c.len]; exact hu
    rw [ringAt_lt hu] at h
    rw [ringAt_lt hu2]
    exact (key hu hu2).2 ⟨h,h1,h2⟩
theorem Cut.step {l m : List Vx} {a : Dart} (c : Cut l m a (othD a)) {p q : Nat} (hn : (allR l).Nodup) (hp : a∈ringAt l p) (hq : othD a∈ringAt l q) (u w : Nat) : stepV l u w↔withE (stepV m) p q u w:=by
  constructor
  · rintro ⟨x, h1, h2⟩
    by_cases e1 : x=a
    · subst e1; exact .inr (.inl ⟨ringAt_one hn h1 hp,ringAt_one hn h2 hq⟩)
    · by_cases e2 : x = othD a
      · subst e2
        rw [othD_othD] at h2
        exact .inr (.inr ⟨ringAt_one hn h1 hq,ringAt_one hn h2 hp⟩)
      · refine .inl ⟨x, c.rings.2 ⟨h1, e1, e2⟩, c.rings.2 ⟨h2, fun e => e2 ?_, fun e => e1 (othD_inj e)⟩⟩
        rw [← e,othD_othD]
  · rintro (⟨x, h1, h2⟩ | ⟨rfl, rfl⟩ | ⟨rfl, rfl⟩)
    · exact ⟨x,(c.rings.1 h1).1,(c.rings.1 h2).1⟩
    · exact ⟨a,hp,hq⟩
    · exact ⟨othD a,hq,by rw [othD_othD]; exact hp⟩
theorem pth_con {l m : List Vx} {a : Dart} (h : Pr l) (c : Cut l m a (othD a)) : ∀ {r : List Dart} {x y : Dart} {u w : Nat},Pth (phiD l) x r y→(∀ z∈x :: r,z∈allR l∧z≠a∧z≠othD a)→x∈ringAt l u→y∈ringAt l w→Con (stepV m) u w:=by
  have one : ∀ {x : Dart} {u w : Nat},x∈allR l→x≠a→x≠othD a→x∈ringAt l u→phiD l x∈ringAt l w→Con (stepV m) u w:=by
    intro x u w hx h1 h2 hu hw
    obtain ⟨k,_,hk⟩:=at_ring (h.oth x hx)
    have e : k=w:=ringAt_one h.nd (sig_ringAt h.nd hk) hw
    subst e
    exact .one ⟨x,c.rings.2 ⟨hu,h1,h2⟩,c.rings.2 ⟨hk,fun e => h2 (by rw [← e,othD_othD]),fun e => h1 (othD_inj e)⟩⟩
  intro r
  induction r with
  | nil =>
    intro x y u w hp hr hu hw
    obtain ⟨h1,h2,h3⟩:=hr x (by simp)
    refine one h1 h2 h3 hu ?_
    rw [show phiD l x=y from hp]; exact hw
  | cons z r ih =>
    intro x y u w hp hr hu hw
    obtain ⟨h1,h2,h3⟩:=hr x (by simp)
    obtain ⟨h4,_,_⟩:=hr z (by simp)
    obtain ⟨k,_,hk⟩:=at_ring h4
    refine (one h1 h2 h3 hu (by rw [hp.1]; exact hk)).trans (ih hp.2 (fun z' hz' => hr z' (by simp at hz' ⊢; exact .inr hz')) hk hw)
theorem con_without {l m : List Vx} {a : Dart} (h : Pr l) (ha : a∈allR l) (c : Cut l m a (othD a)) {cs : List (List Dart)} (hc : Dec (phiD l) (allR l) cs) (hn : ¬ ∃ c∈cs,a∈c∧othD a∈c) {p q : Nat} (hp : a∈ringAt l p) (hq : othD a∈ringAt l q) :
    Con (stepV m) q p:=by
  obtain ⟨A,rest,e,he,hae,hA,pm,hd⟩:=hc.front ha
  have pA : Pth (phiD l) a A a:=hd.cy (a :: A) (by simp)
  have hphi : phiD l a∈ringAt l q:=sig_ringAt h.nd hq
  cases A with
  | nil =>
    have : phiD l a=a:=pA
    rw [this] at hphi
    rw [ringAt_one h.nd hp hphi]
    exact .refl _
  | cons x r =>
    obtain ⟨e1,e2⟩:=pA
    rw [e1] at hphi
    refine pth_con h c e2 (fun z hz => ?_) hphi hp
    have hze : z∈e:=(hA z).2 (by simp at hz ⊢; exact .inr hz)
    refine ⟨(hc.mem z).1 (List.mem_flatten.2 ⟨e,he,hze⟩),?_,fun e' => hn ⟨e,he,hae,e' ▸ hze⟩⟩
    rintro rfl
    have:=hd.nd
    simp only [List.flatten_cons,List.cons_append,List.nodup_cons] at this
    exact this.1 (by simp only [List.mem_cons,List.mem_append] at hz ⊢; rcases hz with hz | hz<;>simp [hz])
structure Eul (l : List Vx) (v e f p : Nat) : Prop where
  v : v=l.length
  e : 2 * e=(allR l).length
  f : ∃ cs,Dec (phiD l) (allR l) cs∧f=cs.length+aloneN l
  p : ∃ lab,Lab (stepV l) l.length lab∧p=partsN lab l.length
def cutE (l : List Vx) (a : Dart) : List Vx:=l.map fun v => reR v ((v.ring.filter (fun y => decide (¬ y=a))).filter (fun y => decide (¬ y=othD a)))
theorem cutE_cut (l : List Vx) (a : Dart) : Cut l (cutE l a) a (othD a):=by
  refine ⟨by simp [cutE],fun i h h' => ?_⟩
  simp only [cutE,List.getElem_map,reR]
  exact .refl _
theorem cut_len {l m : List Vx} {a : Dart} (h : Pr l) (ha : a∈allR l) (c : Cut l m a (othD a)) : (allR l).length=(allR m).length+2:=by
  have hn : (a :: othD a :: allR m).Nodup:=by
    simp only [List.nodup_cons,List.mem_cons,not_or]
    exact ⟨⟨(h.ne a ha).symm,fun hm => ((c.mem _).1 hm).2.1 rfl⟩,fun hm => ((c.mem _).1 hm).2.2 rfl,c.nd h.nd⟩
  have:=len_of_mem (b:=a :: othD a :: allR m) h.nd hn fun x => by
    simp only [List.mem_cons,c.mem]
    constructor
    · intro hx
      by_cases h1 : x=a
      · exact .inl h1
      · by_cases h2 : x = othD a
        · exact .inr (.inl h2)
        · exact .inr (.inr ⟨hx,h1,h2⟩)
    · rintro (rfl | rfl | ⟨hx, _⟩)
      · exact ha
      · exact h.oth _ ha
      · exact hx
  rw [this]; rfl
theorem Eul.cut {l m : List Vx} {a : Dart} (h : Pr l) (ha : a∈allR l) (c : Cut l m a (othD a)) {v e f p v' e' f' p' : Nat} (k : Eul l v e f p) (k' : Eul m v' e' f' p') :
    v'=v∧e=e'+1∧((f'=f+1∧(p'=p∨p'=p+1))∨(f=f'+1∧p'=p)):=by
  obtain ⟨cs,hc,rfl⟩:=k.f
  obtain ⟨cs0,hc0,rfl⟩:=k'.f
  obtain ⟨lab,hl,rfl⟩:=k.p
  obtain ⟨lab',hl',rfl⟩:=k'.p
  obtain ⟨cs',hc',hcase⟩:=hc.faces h ha c
  have hlen:=hc'.len hc0
  have hcl:=cut_len h ha c
  have h1:=k.e
  have h2:=k'.e
  obtain ⟨i,hi,hai⟩:=at_ring ha
  obtain ⟨j,hj,haj⟩:=at_ring (h.oth a ha)
  have hl2 : Lab (withE (stepV m) i j) l.length lab:=hl.iff fun u w => c.step h.nd hai haj u w
  rw [c.len] at hl2 hi hj
  have hpw:=parts_with (R:=stepV m) stepV_symm hi hj hl' hl2
  refine ⟨by rw [k.v,k'.v,c.len],by omega,?_⟩
  rw [← c.len] at hpw
  rw [← c.len]
  rcases hcase with ⟨_,hf,_⟩ | ⟨hn,hf,_⟩
  · refine .inl ⟨by omega, ?_⟩
    split at hpw<;>omega
  · refine .inr ⟨by omega, ?_⟩
    have hcon:=(con_without h ha c hc hn hai haj).symm stepV_symm
    rw [if_pos hcon] at hpw
    omega
theorem eul_ex {l : List Vx} (h : Pr l) {e : Nat} (he : 2 * e=(allR l).length) : ∃ f p,Eul l l.length e f p:=by
  obtain ⟨lab,hl⟩:=lab_ex (stepV l) l.length
  exact ⟨_,_,rfl,he,⟨_,(phiD_oo h).dec (Nat.le_refl _),rfl⟩,⟨lab,hl,rfl⟩⟩
theorem Eul.uniq {l : List Vx} {v e f p v' e' f' p' : Nat} (k : Eul l v e f p) (k' : Eul l v' e' f' p') : v'=v∧e'=e∧f'=f∧p'=p:=by
  obtain ⟨cs,hc,rfl⟩:=k.f
  obtain ⟨cs0,hc0,rfl⟩:=k'.f
  obtain ⟨lab,hl,rfl⟩:=k.p
  obtain ⟨lab',hl',rfl⟩:=k'.p
  refine ⟨by rw [k.v,k'.v],by have:=k.e; have:=k'.e; omega,by rw [hc.len hc0],partsN_congr fun u hu => hl'.uniq hl hu⟩
theorem Eul.genus : ∀ (n : Nat) {l : List Vx},(allR l).length≤n→Pr l→∀ {v e f p : Nat},Eul l v e f p→∃ g : Nat,v+f+2 * g=e+2 * p:=by
  intro n
  induction n with
  | zero =>
    intro l hn h v e f p k
    have hnil : allR l=[]:=List.eq_nil_of_length_eq_zero (by omega)
    obtain ⟨cs,hc,rfl⟩:=k.f
    obtain ⟨lab,hl,rfl⟩:=k.p
    have he:=k.e
    rw [hnil] at he
    have hcs : cs=[]:=by
      cases cs with
      | nil => rfl
      | cons c cs =>
        have:=hc.cy c (by simp)
        cases c with
        | nil => cases this
        | cons x r =>
          have:=(hc.mem x).1 (by simp)
          rw [hnil] at this; cases this
    subst hcs
    have hal : aloneN l=l.length:=by
      unfold aloneN
      refine List.countP_eq_length.2 fun v hv => ?_
      cases hr : v.ring with
      | nil => rfl
      | cons x r =>
        have:=mem_allR hv (x:=x) (by rw [hr]; simp)
        rw [hnil] at this; cases this
    have hparts:=parts_none hl (fun u w => by
      rintro ⟨x,h1,_⟩
      have:=ringAt_all (u:=u) h1
      rw [hnil] at this; cases this)
    refine ⟨0,?_⟩
    rw [k.v,hal,hparts]
    simp at he
    simp; omega
  | succ n ih =>
    intro l hn h v e f p k
    by_cases h0 : (allR l).length≤n
    · exact ih h0 h k
    · have hne : allR l ≠ [] := fun e => by rw [e] at h0; simp at h0
      obtain ⟨a,ha⟩:=List.exists_mem_of_ne_nil _ hne
      have c:=cutE_cut l a
      have h':=c.pr h
      have hcl:=cut_len h ha c
      have he:=k.e
      obtain ⟨f',p',k'⟩:=eul_ex h' (e:=e - 1) (by omega)
      obtain ⟨g',hg'⟩:=ih (by omega) h' k'
      obtain ⟨a1,a2,a3⟩:=Eul.cut h ha c k k'
      rcases a3 with ⟨a3,a4 | a4⟩ | ⟨a3,a4⟩
      · exact ⟨g'+1,by omega⟩
      · exact ⟨g',by omega⟩
      · exact ⟨g',by omega⟩
theorem Eul.faces_le {l : List Vx} (h : Pr l) {v e f p : Nat} (k : Eul l v e f p) : p≤f∧p≤v:=by
  obtain ⟨cs,hc,rfl⟩:=k.f
  obtain ⟨lab,hl,rfl⟩:=k.p
  refine ⟨?_,by rw [k.v]; exact partsN_le _ _⟩
  -- darts of one face are in one part
  have key : ∀ c∈cs,∀ x∈c,∀ y∈c,∀ u w,x∈ringAt l u→y∈ringAt l w→Con (stepV l) u w:=by
    intro c hcc x hx y hy u w hu hw
    have:=(hc.cy c hcc).within (S:=fun z => z∈allR l∧∀ w,z∈ringAt l w→Con (stepV l) u w) (fun z hz => by
      obtain ⟨h1,h2⟩:=hz
      obtain ⟨i,_,hi⟩:=at_ring h1
      obtain ⟨j,_,hj⟩:=at_ring (h.oth z h1)
      have hs:=sig_ringAt h.nd hj
      refine ⟨ringAt_all hs,fun w hw => ?_⟩
      have e : j=w:=ringAt_one h.nd hs hw
      subst e
      exact (h2 i hi).trans (.one ⟨z,hi,hj⟩)) hx ⟨(hc.mem x).1 (List.mem_flatten.2 ⟨c,hcc,hx⟩),fun w hw => by rw [ringAt_one h.nd hu hw]; exact .refl _⟩ y hy
    exact this.2 w hw
  unfold partsN aloneN
  -- those whose ring is empty,those whose ring is not
  have count_split : ∀ (us : List Nat),us.countP (fun u => decide (lab u=u))=us.countP (fun u => decide (lab u=u∧ringAt l u=[]))+us.countP (fun u => decide (lab u=u∧ringAt l u≠[])):=by
    intro us
    induction us with
    | nil => rfl
    | cons u us ih =>
      simp only [List.countP_cons,ih,decide_eq_true_eq]
      by_cases h1 : lab u=u<;>by_cases h2 : ringAt l u=[]<;>simp [h1,h2]<;>omega
  have e1 : (List.range l.length).countP (fun u => decide (lab u=u∧ringAt l u=[]))≤l.countP (fun v => v.ring.isEmpty):=by
    have e : l.countP (fun v => v.ring.isEmpty)=(List.range l.length).countP (fun u => (ringAt l u).isEmpty):=by
      have : l=(List.range l.length).map (fun u => l.getD u ⟨ID0,[],⟨#[]⟩,0⟩):=by
        refine List.ext_getElem (by simp) fun i h1 h2 => ?_
        simp [h1]
      conv => lhs; rw [this]
      rw [List.countP_map]; rfl
    rw [e]
    refine List.countP_mono_left fun u _ hu => ?_
    have:=of_decide_eq_true hu
    rw [this.2]; rfl
  have e2 : (List.range l.length).countP (fun u => decide (lab u=u∧ringAt l u≠[]))≤cs.length:=by
    rw [List.countP_eq_length_filter]
    have inj : ∀ (us : List Nat) (ds : List (List Dart)),us.Nodup→(∀ d∈ds,d∈cs)→(∀ u∈us,u < l.length∧lab u=u∧∃ x∈ringAt l u,x∈ds.flatten)→us.length≤ds.length:=by
      intro us
      induction us with
      | nil => intro ds _ _ _; exact Nat.zero_le _
      | cons u us ih =>
        intro ds hnd hds hus
        rw [List.nodup_cons] at hnd
        obtain ⟨h1,h2,x,hx,hxd⟩:=hus u (by simp)
        obtain ⟨d,hd,hxd⟩:=List.mem_flatten.1 hxd
        obtain ⟨rest,pm⟩:=perm_front hd
        have:=ih rest hnd.2 (fun d hd => hds d (pm.mem_iff.2 (by simp [hd]))) (fun w hw => by
          obtain ⟨k1,k2,y,hy,hyd⟩:=hus w (by simp [hw])
          refine ⟨k1,k2,y,hy,?_⟩
          have hyd':=(pm.flatten.mem_iff).1 hyd
          rw [List.flatten_cons,List.mem_append] at hyd'
          rcases hyd' with hyd' | hyd'
          · exfalso
            have hcon:=key d (hds d hd) x hxd y hyd' u w hx hy
            have:=(hl.eq stepV_symm h1 k1).1 hcon
            rw [h2,k2] at this
            exact hnd.1 (this ▸ hw)
          · exact hyd')
        rw [pm.length_eq]
        simp; omega
    refine inj _ cs (List.nodup_range.filter _) (fun _ h => h) fun u hu => ?_
    obtain ⟨hu1,hu2⟩:=List.mem_filter.1 hu
    have hu2:=of_decide_eq_true hu2
    obtain ⟨x,hx⟩:=List.exists_mem_of_ne_nil _ hu2.2
    exact ⟨List.mem_range.1 hu1,hu2.1,x,hx,(hc.mem x).2 (ringAt_all hx)⟩
  have:=count_split (List.range l.length)
  omega
end Go.Proofs.Ytcecojdeljbjoaa.Sx
