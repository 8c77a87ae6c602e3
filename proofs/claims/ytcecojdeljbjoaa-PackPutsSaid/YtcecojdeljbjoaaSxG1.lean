/- An evaluator for the part of the code that this seat's functions use: trees of values for what came in,named objects for what a call makes itself. The evaluator's limit: what a piece of code comes to with enough rounds; its equations. The model's code,as the evaluator's: a function that the kernel runs. What the evaluator's values say of the model's: relations between trees,names,objects and a world; how they are carried on. How the relation is carried over what an operation does. What single operations of the model do,as far as the evaluator uses them. The evaluator's single operations are sound: those that no call is. -/
import Derived.LoadGo2
import Derived.WalkKit
import Derived.Laws.MakeOwn
import Derived.Below
import Derived.Laws.StructEq
import Derived.Laws.CopyRow
import Derived.Laws.Tables
import Derived.Laws.OwnMore
import Derived.CallsIn
import Derived.RangeFuncCalls
set_option maxRecDepth 100000
set_option linter.unusedSimpArgs false
set_option linter.unusedVariables false
namespace Go.Proofs.Ytcecojdeljbjoaa.Sx
open Go

inductive Fl where
  | shared
  | own (e : TypeId)
  | tight (e : TypeId)

inductive TV where
  | int (k : IntKind) (n : Int)
  | bool (b : Bool)
  | str (s : ByteArray)
  | sl (fl : Fl) (sz : Nat) (rows : List (List TV))
  | agg (cells : List TV)
  | tup (vs : List TV)
  | pc (cells : List TV)
  | fn (f : FuncId) (caps : List TV)
  | nilfn
  | unk

inductive LV where
  | u
  | v (t : TV)
  | p (id off : Nat)
  | pe (id row off : Nat)
  | s (id off len : Nat)
  | agg (cells : List LV)
  | tup (vs : List LV)
  | fn (f : FuncId) (caps : List LV)
  | m (id : Nat)

inductive Ob where
  | var (fz : Bool) (cells : List LV)
  | arr (fz : Bool) (e : TypeId) (sz : Nat) (rows : List (List TV))
  | map (fz kag vag : Bool) (ents : List (List TV × List TV))
  | dead

def upd {α : Type} (f : Nat→α) (i : Nat) (x : α) : Nat→α:=fun j => if j=i then x else f j
@[go_sem] theorem upd_apply {α : Type} (f : Nat→α) (i : Nat) (x : α) (j : Nat) : upd f i x j=if j=i then x else f j:=rfl

abbrev Hp:=Nat→Option Ob
structure St where
  env : Nat→LV
  hp : Hp

def e0 : Nat→LV:=fun _ => .u
def h0 : Hp:=fun _ => none
@[go_sem] theorem e0_apply (i : Nat) : e0 i=.u:=rfl
@[go_sem] theorem h0_apply (i : Nat) : h0 i=none:=rfl

inductive X where
  | t (i : Nat)
  | c (l : LV)
  | fn (f : FuncId)

def X.rd (e : Nat→LV) : X→LV
  | .t i => e i
  | .c l => l
  | .fn f => .fn f []

def rds (e : Nat→LV) : List X→List LV
  | [] => []
  | x :: xs => x.rd e :: rds e xs

inductive Lk where
  | i | b | z

inductive IOp where
  | mv (d : Nat) (x : X)
  | pick (d : Nat) (c a b : X)
  | alloc (d : Nat) (zs : List LV)
  | box (d : Nat) (x : X) (n : Nat)
  | build (d : Nat) (zs : List LV) (parts : List (Nat × Nat × X))
  | bslice (d : Nat) (e : TypeId) (sz : Nat) (parts : List X)
  | load (d : Nat) (a : X) (n : Nat) (ag : Bool)
  | store (a x : X) (n : Nat)
  | nchk (d : Nat) (x : X)
  | bin (d : Nat) (bt : Bool) (op : BinOp) (x y : X)
  | eqs (d : Nat) (neg : Bool) (ks : List Lk) (x y : X)
  | un (d : Nat) (op : UnOp) (x : X)
  | conv (d : Nat) (k : IntKind) (x : X)
  | fld (d : Nat) (x : X) (off n : Nat) (ag : Bool)
  | faddr (d : Nat) (a : X) (off : Nat)
  | iaddr (d : Nat) (x i : X) (sz : Nat)
  | aaddr (d : Nat) (x i : X) (len sz : Nat)
  | ixa (d : Nat) (x i : X) (len sz : Nat) (ag : Bool)
  | ixs (d : Nat) (x i : X)
  | slice (d : Nat) (x : X) (lo hi mx : Option X) (e : TypeId) (sz : Nat)
  | len (d : Nat) (z : Bool) (x : X)
  | cap (d : Nat) (x : X)
  | append (d : Nat) (x y : X) (e : TypeId) (sz bytes : Nat)
  | copy (d : Nat) (x y : X) (sz : Nat)
  | b2s (d : Nat) (x : X)
  | ext (d : Nat) (x : X) (i : Nat)
  | mkfn (d : Nat) (f : FuncId) (caps : List X)
  | call (d : Nat) (f : X) (args : List X)
  | icall (d k : Nat) (f : X) (args : List X)
  | mn (d : Nat) (args : List X)
  | mx (d : Nat) (args : List X)
  | mkslice (d : Nat) (len cap : X) (e : TypeId) (zrow : List TV) (bytes : Nat)
  | isnil (d : Nat) (neg ptr : Bool) (x : X)
  | appz (d : Nat) (x n : X) (e : TypeId) (zrow : List TV) (bytes : Nat)
  | mkmap (d : Nat) (kag vag : Bool)
  | mget (d : Nat) (ks : List Lk) (kag vag : Bool) (zs : List TV) (commaOk : Bool) (m k : X)
  | mupd (ks : List Lk) (kag vag : Bool) (n : Nat) (m k v : X)
  | mdel (ks : List Lk) (kag : Bool) (m k : X)
  | mlen (d : Nat) (m : X)
  | ssl (d : Nat) (x : X) (lo hi : Option X)
  | s2b (d : Nat) (x : X)
  | cvb (d : Nat) (x : X)
  | sst (a x : X) (n : Nat)
  | bad

structure IOper where
  op : IOp
  guard : Option (Nat × Bool)

structure GC where
  slots : List Nat
  ids : List (Nat × Nat)

inductive ICode where
  | skip
  | gc (g : GC)
  | region (ops : List IOper) (g : GC)
  | draw (ops : List IOper) (ord : List Nat) (g : GC)
  | draws (ops : List IOper) (ss : List (List Nat)) (g : GC)
  | seq (a b : ICode)
  | cond (c : X) (a b : ICode)
  | block (id : Nat) (b : ICode)
  | loop (b : ICode)
  | exit (id : Nat)
  | ret
  | bad
  | rng (x : X) (p : Nat) (ac bd : ICode) (g : GC) (ks : List (Nat × Nat))
  | yld (d a : Nat) (o : IOper) (x : X) (g : GC)

inductive Ex where
  | norm | exit (id : Nat) | ret

/-! ### cells -/
def LV.cells : LV→List LV
  | .agg cs => cs
  | .v (.int k n) => [.v (.int k n)]
  | .v (.bool b) => [.v (.bool b)]
  | .v (.str z) => [.v (.str z)]
  | .v (.sl a b c) => [.v (.sl a b c)]
  | .v (.pc cs) => [.v (.pc cs)]
  | .v (.fn f cs) => [.v (.fn f cs)]
  | .v .nilfn => [.v .nilfn]
  | .p a b => [.p a b]
  | .pe a b c => [.pe a b c]
  | .s a b c => [.s a b c]
  | .fn a b => [.fn a b]
  | .m a => [.m a]
  | _ => []

def packL : Bool→List LV→Option LV
  | true,cs => some (.agg cs)
  | false,[c] => some c
  | false,_ => none

def liftV : List TV→List LV
  | [] => []
  | t :: ts => .v t :: liftV ts

def inj : TV→LV
  | .agg cs => .agg (liftV cs)
  | .int a b => .v (.int a b)
  | .bool b => .v (.bool b)
  | .str s => .v (.str s)
  | .sl a b c => .v (.sl a b c)
  | .tup vs => .v (.tup vs)
  | .pc cs => .v (.pc cs)
  | .fn f cs => .v (.fn f cs)
  | .nilfn => .v .nilfn
  | .unk => .v .unk

def solidS (off len id : Nat) : Option Ob→Option (TV × List Nat)
  | some (.arr _ _ sz rows) => some (.sl .shared sz ((rows.drop off).take len),[id])
  | _ => none
def solidCell (h : Hp) : LV→Option (TV × List Nat)
  | .v (.sl _ sz rows) => some (.sl .shared sz rows,[])
  | .v (.int k n) => some (.int k n,[])
  | .v (.bool b) => some (.bool b,[])
  | .v (.str s) => some (.str s,[])
  | .v (.pc cs) => some (.pc cs,[])
  | .v (.fn f cs) => some (.fn f cs,[])
  | .v .nilfn => some (.nilfn,[])
  | .s id off len => solidS off len id (h id)
  | .m _ => some (.unk,[])
  | .v .unk => some (.unk,[])
  | _ => none
def consS : Option (TV × List Nat)→Option (List TV × List Nat)→Option (List TV × List Nat)
  | some (t,i),some (ts,is) => some (t :: ts,i++is)
  | _,_ => none
def solidCells (h : Hp) : List LV→Option (List TV × List Nat)
  | [] => some ([],[])
  | c :: cs => consS (solidCell h c) (solidCells h cs)

def aggS : Option (List TV × List Nat)→Option (TV × List Nat)
  | some (ts,is) => some (.agg ts,is)
  | none => none
def pcS (id : Nat) : Option (List TV × List Nat)→Option (TV × List Nat)
  | some (ts,is) => some (.pc ts,id :: is)
  | none => none
def fnS (f : FuncId) : Option (List TV × List Nat)→Option (TV × List Nat)
  | some (ts,is) => some (.fn f ts,is)
  | none => none
def solidP (h : Hp) (id off : Nat) : Option Ob→Option (TV × List Nat)
  | some (.var _ cs) => pcS id (solidCells h (cs.drop off))
  | _ => none
def solidCap (h : Hp) : LV→Option (TV × List Nat)
  | .p id off => solidP h id off (h id)
  | l => solidCell h l
def solidCaps (h : Hp) : List LV→Option (List TV × List Nat)
  | [] => some ([],[])
  | c :: cs => consS (solidCap h c) (solidCaps h cs)
def solidArg (h : Hp) : LV→Option (TV × List Nat)
  | .agg cs => aggS (solidCells h cs)
  | .p id off => solidP h id off (h id)
  | .fn f caps => fnS f (solidCaps h caps)
  | .v (.sl (.tight e) sz []) => some (.sl (.tight e) sz [],[])
  | l => solidCell h l
def solidArgs (h : Hp) : List LV→Option (List TV × List Nat)
  | [] => some ([],[])
  | c :: cs => consS (solidArg h c) (solidArgs h cs)

def Ob.freeze : Ob→Ob
  | .var _ cs => .var true cs
  | .arr _ e sz rows => .arr true e sz rows
  | .map _ k v es => .map true k v es
  | .dead => .dead

def frz : Option Ob→Option Ob
  | some o => some o.freeze
  | none => none
def freezeAll (h : Hp) : List Nat→Hp
  | [] => h
  | i :: is => freezeAll (upd h i (frz (h i))) is

def TV.scalar : TV→Bool
  | .int .. => true
  | .bool _ => true
  | .str _ => true
  | .nilfn => true
  | _ => false
def scalars : List TV→Bool
  | [] => true
  | t :: ts => t.scalar && scalars ts
def TV.flat : TV→Bool
  | .agg cs => scalars cs
  | .tup cs => flats cs
  | t => t.scalar
where
  flats : List TV→Bool
  | [] => true
  | .agg cs :: ts => scalars cs && flats ts
  | t :: ts => t.scalar && flats ts

def scalarRows : List (List TV)→Bool
  | [] => true
  | r :: rs => scalars r && scalarRows rs
def TV.lone1 : TV→Bool
  | .sl (.own _) _ rows => scalarRows rows
  | t => t.scalar
def lones : List TV→Bool
  | [] => true
  | t :: ts => t.lone1 && lones ts
def TV.loneR : TV→Bool
  | .agg cs => lones cs
  | t => t.lone1
def lonesR : List TV→Bool
  | [] => true
  | t :: ts => t.loneR && lonesR ts
def TV.lone : TV→Bool
  | .tup ts => lonesR ts
  | t => t.loneR

def consT (l : LV) : Option (List LV × St)→Option (List LV × St)
  | some (ls,st) => some (l :: ls,st)
  | none => none
def thawOne (k : Nat) (e : TypeId) (sz : Nat) (rows : List (List TV)) (f : St→Option (List LV × St)) (st : St) : Option Ob→Option (List LV × St)
  | none => consT (.s k 0 rows.length) (f { st with hp:=upd st.hp k (some (.arr false e sz rows)) })
  | some _ => none
def thawCells : Nat→List TV→St→Option (List LV × St)
  | _,[],st => some ([],st)
  | k,.sl (.own e) sz rows :: ts,st => thawOne k e sz rows (thawCells (k+1) ts) st (st.hp k)
  | k,t :: ts,st => consT (.v t) (thawCells (k+1) ts st)
def oneT : Option (List LV × St)→Option (LV × St)
  | some ([l],st) => some (l,st)
  | _ => none
def aggT : Option (List LV × St)→Option (LV × St)
  | some (ls,st) => some (.agg ls,st)
  | none => none
def tupT : Option (List LV × St)→Option (LV × St)
  | some (ls,st) => some (.tup ls,st)
  | none => none
def thaw1 (k : Nat) : TV→St→Option (LV × St)
  | .agg cs,st => if cs.length≤16 then aggT (thawCells k cs st) else none
  | t,st => oneT (thawCells k [t] st)
def thawK (f : St→Option (List LV × St)) : Option (LV × St)→Option (List LV × St)
  | some (l,st) => consT l (f st)
  | none => none
def thawVs : Nat→List TV→St→Option (List LV × St)
  | _,[],st => some ([],st)
  | k,t :: ts,st => thawK (thawVs (k+16) ts) (thaw1 k t st)
def thaw (k : Nat) : TV→St→Option (LV × St)
  | .tup cs,st => tupT (thawVs k cs st)
  | t,st => thaw1 k t st

def St.set (st : St) (d : Nat) (l : LV) : St:={ st with env:=upd st.env d l }
def mkK (d id : Nat) (o : Ob) (l : LV) (st : St) : Option Ob→Option St
  | none => some { env:=upd st.env d l,hp:=upd st.hp id (some o) }
  | some _ => none
def mkO (d id : Nat) (o : Ob) (l : LV) (st : St) : Option St:=mkK d id o l st (st.hp id)
def setM (st : St) (d : Nat) : Option LV→Option St
  | some l => some (st.set d l)
  | none => none
def setV (st : St) (d : Nat) : Option TV→Option St
  | some t => some (st.set d (.v t))
  | none => none

/-! ### numbers -/
def andB (k : IntKind) (a b : Int) : Int:=(BitVec.ofInt k.bits a &&& BitVec.ofInt k.bits b).toNat
def orB (k : IntKind) (a b : Int) : Int:=(BitVec.ofInt k.bits a ||| BitVec.ofInt k.bits b).toNat
def xorB (k : IntKind) (a b : Int) : Int:=(BitVec.ofInt k.bits a ^^^ BitVec.ofInt k.bits b).toNat
def andNotB (k : IntKind) (a b : Int) : Int:=(BitVec.ofInt k.bits a &&& ~~~BitVec.ofInt k.bits b).toNat
def binI (k : IntKind) (a b : Int) : BinOp→Option TV
  | .add => some (.int k (k.wrap (a+b)))
  | .sub => some (.int k (k.wrap (a - b)))
  | .mul => some (.int k (k.wrap (a * b)))
  | .quo => if b=0 then none else some (.int k (k.wrap (a.tdiv b)))
  | .rem => if b=0 then none else some (.int k (a.tmod b))
  | .and => some (.int k (k.wrap (andB k a b)))
  | .or => some (.int k (k.wrap (orB k a b)))
  | .xor => some (.int k (k.wrap (xorB k a b)))
  | .andNot => some (.int k (k.wrap (andNotB k a b)))
  | .eql => some (.bool (decide (a=b)))
  | .neq => some (.bool (decide (a≠b)))
  | .lss => some (.bool (decide (a < b)))
  | .leq => some (.bool (decide (a≤b)))
  | .gtr => some (.bool (decide (a > b)))
  | .geq => some (.bool (decide (a ≥ b)))
  | .shl => if b < 0 then none else some (.int k (k.wrap (a * 2 ^ (min b.toNat k.bits))))
  | .shr => if b < 0 then none else some (.int k (a.fdiv (2 ^ (min b.toNat k.bits))))
def shiftOp : BinOp→Bool
  | .shl => true
  | .shr => true
  | _ => false
def binB (a b : Bool) : BinOp→Option TV
  | .eql => some (.bool (a == b))
  | .neq => some (.bool (!(a == b)))
  | _ => none
def binS (a b : ByteArray) : BinOp→Option TV
  | .eql => some (.bool (a.toList == b.toList))
  | .neq => some (.bool (!(a.toList == b.toList)))
  | .lss => some (.bool (Op.bytesLess a.toList b.toList))
  | .add => if a.size+b.size≤9223372036854775807 then some (.str (a++b)) else none
  | _ => none
def binV (bt : Bool) (op : BinOp) : LV→LV→Option TV
  | .v (.int k a),.v (.int k' b) => if k=k'∨shiftOp op=true then binI k a b op else none
  | .v (.bool a),.v (.bool b) => if bt then binB a b op else none
  | .v (.str a),.v (.str b) => binS a b op
  | _,_ => none

def eqCell : Lk→LV→LV→Option Bool
  | .i,.v (.int k a),.v (.int k' b) => if k=k' then some (decide (a=b)) else none
  | .b,.v (.bool a),.v (.bool b) => some (a == b)
  | .z,.v (.str a),.v (.str b) => some (a.toList == b.toList)
  | _,_,_ => none
def andO : Option Bool→Option Bool→Option Bool
  | some a,some b => some (a && b)
  | _,_ => none
def eqCells : List Lk→List LV→List LV→Option Bool
  | [],[],[] => some true
  | k :: ks,x :: xs,y :: ys => andO (eqCell k x y) (eqCells ks xs ys)
  | _,_,_ => none
def negB (neg : Bool) : Option Bool→Option TV
  | some b => some (.bool (if neg then !b else b))
  | none => none
def eqL (neg : Bool) (ks : List Lk) : LV→LV→Option TV
  | .agg a,.agg b => negB neg (eqCells ks a b)
  | _,_ => none
def unV : UnOp→LV→Option TV
  | .not,.v (.bool b) => some (.bool (!b))
  | .neg,.v (.int k n) => some (.int k (k.wrap (0 - n)))
  | _,_ => none
def convV (k : IntKind) : LV→Option TV
  | .v (.int _ n) => some (.int k (k.wrap n))
  | _ => none

def rowsS (off len : Nat) : Option Ob→Option (Nat × List (List TV))
  | some (.arr _ _ sz rows) => some (sz,(rows.drop off).take len)
  | _ => none
def byteRows : List UInt8→List (List TV)
  | [] => []
  | b :: bs => [.int .u8 b.toNat] :: byteRows bs
def rowsOf (h : Hp) : LV→Option (Nat × List (List TV))
  | .v (.sl _ sz rows) => some (sz,rows)
  | .v (.str s) => some (1,byteRows s.data.toList)
  | .s id off len => rowsS off len (h id)
  | _ => none
def rowsB (h : Hp) : LV→Option (Nat × List (List TV))
  | .v (.sl _ sz rows) => some (sz,rows)
  | .s id off len => rowsS off len (h id)
  | _ => none
def bytesOf : List (List TV)→Option (List UInt8)
  | [] => some []
  | [.int .u8 n] :: rs => (bytesOf rs).map (UInt8.ofNat n.toNat :: ·)
  | _ => none
def strR : Option (List UInt8)→Option TV
  | some bs => some (.str ⟨bs.toArray⟩)
  | none => none
def b2sK : Option (Nat × List (List TV))→Option TV
  | some (1,rows) => strR (bytesOf rows)
  | _ => none
def lenV : Bool→LV→Option TV
  | false,.v (.sl _ _ rows) => some (.int .i64 rows.length)
  | true,.v (.str s) => some (.int .i64 s.size)
  | false,.s _ _ len => some (.int .i64 len)
  | _,_ => none
def capV : LV→Option TV
  | .v (.sl (.tight _) _ rows) => some (.int .i64 rows.length)
  | _ => none

def setFrom (cs : List LV) (off : Nat) : List LV→List LV
  | [] => cs
  | x :: xs => setFrom (cs.set off x) (off+1) xs
def setFromT (cs : List TV) (off : Nat) : List TV→List TV
  | [] => cs
  | x :: xs => setFromT (cs.set off x) (off+1) xs

def bndL (mx : Nat) : LV→Option Nat
  | .v (.int _ n) => if 0≤n∧n≤mx then some n.toNat else none
  | _ => none
def bndX (e : Nat→LV) (dflt : Nat) : Option X→Option Nat→Option Nat
  | none,some _ => some dflt
  | some x,some mx => bndL mx (x.rd e)
  | _,none => none

def minGo (k : IntKind) (x : Int) : List LV→Option LV
  | [] => some (.v (.int k x))
  | .v (.int _ y) :: r => minGo k (if y < x then y else x) r
  | _ => none
def foldMin : List LV→Option LV
  | .v (.int k x) :: rest => minGo k x rest
  | _ => none
def maxGo (k : IntKind) (x : Int) : List LV→Option LV
  | [] => some (.v (.int k x))
  | .v (.int _ y) :: r => maxGo k (if y > x then y else x) r
  | _ => none
def foldMax : List LV→Option LV
  | .v (.int k x) :: rest => maxGo k x rest
  | _ => none

def buildCells (e : Nat→LV) (cs : List LV) : List (Nat × Nat × X)→Option LV
  | [] => some (.agg cs)
  | (off,n,x) :: ps => if (X.rd e x).cells.length=n∧off+n≤cs.length then buildCells e (setFrom cs off (X.rd e x).cells) ps else none

def consR (sz : Nat) : Option (List TV × List Nat)→Option (List (List TV) × List Nat)→Option (List (List TV) × List Nat)
  | some (r,i),some (rs,is) => if r.length=sz then some (r :: rs,i++is) else none
  | _,_ => none
def solidRows (h : Hp) (e : Nat→LV) (sz : Nat) : List X→Option (List (List TV) × List Nat)
  | [] => some ([],[])
  | x :: xs => consR sz (solidCells h (X.rd e x).cells) (solidRows h e sz xs)

/-! ### what is kept -/
def lk (lo i : Nat) : List (Nat × Nat)→Option Nat
  | [] => if i < lo then some i else none
  | (a,b) :: r => if lo+a=i then some (lo+b) else lk lo i r
def renP (off : Nat) : Option Nat→LV
  | some n => .p n off
  | none => .u
def renE (r off : Nat) : Option Nat→LV
  | some n => .pe n r off
  | none => .u
def renS (off len : Nat) : Option Nat→LV
  | some n => .s n off len
  | none => .u
def renM : Option Nat→LV
  | some n => .m n
  | none => .u
def maskC (lo : Nat) (j : List (Nat × Nat)) : LV→LV
  | .p id off => renP off (lk lo id j)
  | .pe id r off => renE r off (lk lo id j)
  | .s id off len => renS off len (lk lo id j)
  | .m id => renM (lk lo id j)
  | .v t => .v t
  | .tup [] => .tup []
  | _ => .u
def maskCs (lo : Nat) (j : List (Nat × Nat)) : List LV→List LV
  | [] => []
  | c :: cs => maskC lo j c :: maskCs lo j cs
def mask2 (lo : Nat) (j : List (Nat × Nat)) : List LV→List LV
  | [] => []
  | .agg cs :: ls => .agg (maskCs lo j cs) :: mask2 lo j ls
  | c :: ls => maskC lo j c :: mask2 lo j ls
def maskL (lo : Nat) (j : List (Nat × Nat)) : LV→LV
  | .agg cs => .agg (maskCs lo j cs)
  | .fn f cs => .fn f (maskCs lo j cs)
  | .tup (c :: cs) => .tup (mask2 lo j (c :: cs))
  | l => maskC lo j l
def maskO (lo : Nat) (j : List (Nat × Nat)) : Option Ob→Option Ob
  | some (.var fz cs) => some (.var fz (maskCs lo j cs))
  | some (.arr fz e sz rows) => some (.arr fz e sz rows)
  | some (.map fz k v es) => some (.map fz k v es)
  | some .dead => some .dead
  | none => none
/-! ### one operation -/
def pickK (st : St) (d : Nat) (a b : LV) : LV→Option St
  | .v (.bool c) => if c=true then some (st.set d a) else some (st.set d b)
  | _ => none
def boxK (lo : Nat) (st : St) (d n : Nat) (cs : List LV) : Option St:=if cs.length=n then mkO d (lo+d) (.var false cs) (.p (lo+d) 0) st else none
def tightV : List X→Option (List (List TV) × List Nat)→Option (List (List TV) × List Nat)
  | [.c (.v (.sl (.tight e2) z []))],some ([[_]],is) => some ([[.sl (.tight e2) z []]],is)
  | _,r => r
def tightR (lo : Nat) (xs : List X) (r : Option (List (List TV) × List Nat)) : Option (List (List TV) × List Nat):=if lo < 1000000000000 then r else tightV xs r
def bsliceK (lo : Nat) (st : St) (d : Nat) (e : TypeId) (sz : Nat) : Option (List (List TV) × List Nat)→Option St
  | some (rows,is) => mkO d (lo+d) (.arr false e sz rows) (.s (lo+d) 0 rows.length) { st with hp:=freezeAll st.hp is }
  | none => none
def cut (ag : Bool) (cs : List LV) (off n : Nat) : Option LV:=if off+n≤cs.length then packL ag ((cs.drop off).take n) else none
def loadR (ag : Bool) (off n : Nat) : Option (List TV)→Option LV
  | some r => if off+n≤r.length then packL ag (liftV ((r.drop off).take n)) else none
  | none => none
def loadO (ag : Bool) (off n : Nat) : Option Ob→Option LV
  | some (.var _ cs) => cut ag cs off n
  | _ => none
def loadE (ag : Bool) (row off n : Nat) : Option Ob→Option LV
  | some (.arr _ _ _ rows) => loadR ag off n rows[row]?
  | _ => none
def loadL (h : Hp) (n : Nat) (ag : Bool) : LV→Option LV
  | .p id off => loadO ag off n (h id)
  | .pe id row off => loadE ag row off n (h id)
  | .v (.pc cs) => loadR ag 0 n (some cs)
  | _ => none
def storeP (st : St) (id off n : Nat) (xs : List LV) : Option Ob→Option St
  | some (.var false cs) => if off+n≤cs.length∧xs.length=n then some { st with hp:=upd st.hp id (some (.var false (setFrom cs off xs))) } else none
  | _ => none
def storeE2 (st : St) (id : Nat) (e : TypeId) (sz : Nat) (rows : List (List TV)) (row off n : Nat) (ts : List TV) (is : List Nat) : Option (List TV)→Option St
  | some r => if off+n≤r.length∧ts.length=n∧¬ id∈is then some { st with hp:=upd (freezeAll st.hp is) id (some (.arr false e sz (rows.set row (setFromT r off ts)))) } else none
  | none => none
def storeE (st : St) (id row off n : Nat) : Option (List TV × List Nat)→Option Ob→Option St
  | some (ts,is),some (.arr false e sz rows) => storeE2 st id e sz rows row off n ts is rows[row]?
  | _,_ => none
def storeL (st : St) (n : Nat) (xs : List LV) : LV→Option St
  | .p id off => storeP st id off n xs (st.hp id)
  | .pe id row off => storeE st id row off n (solidCells st.hp xs) (st.hp id)
  | _ => none
def putO (st : St) (id id2 nid off len : Nat) : Option Ob→Option Ob→Option Ob→Option St
  | some (.arr false e sz rows),none,some (.var false cs) => if 0 < len∧rows.length=len∧off < cs.length then
      some { st with hp:=upd (upd (upd st.hp id2 (some .dead)) nid (some (.arr false e sz rows))) id (some (.var false (setFrom cs off [.s nid 0 len]))) } else none
  | _,_,_ => none
def storeV (st : St) (n : Nat) : LV→LV→Option St
  | .s id2 0 len,.p id off => if n=1 then putO st id id2 (off * 1000000+len) off len (st.hp id2) (st.hp (off * 1000000+len)) (st.hp id) else none
  | x,l => storeL st n x.cells l
def storeQ (lo : Nat) (st : St) (n : Nat) (x l : LV) : Option St:=if lo < 1000000000000 then storeL st n x.cells l else storeV st n x l
def sstK (st : St) (n : Nat) (l : LV) : Option (TV × List Nat)→Option St
  | some (t,is) => storeL { st with hp:=freezeAll st.hp is } n (LV.v t).cells l
  | none => none
def nchkL : LV→Option LV
  | .p id off => some (.p id off)
  | .pe id r off => some (.pe id r off)
  | .v (.pc cs) => some (.v (.pc cs))
  | .fn f cs => some (.fn f cs)
  | .v (.fn f cs) => some (.v (.fn f cs))
  | _ => none
def fldL (off n : Nat) (ag : Bool) : LV→Option LV
  | .agg cs => cut ag cs off n
  | _ => none
def faddrL (off : Nat) : LV→Option LV
  | .p id o => some (.p id (o+off))
  | .pe id r o => some (.pe id r (o+off))
  | .v (.pc cs) => some (.v (.pc (cs.drop off)))
  | _ => none
def pcR : Option (List TV)→Option LV
  | some r => some (.v (.pc r))
  | none => none
def iaddrS (sz id off len : Nat) (n : Int) : Option Ob→Option LV
  | some (.arr _ _ sz' _) => if sz'=sz∧0≤n∧n < len then some (.pe id (off+n.toNat) 0) else none
  | some (.var _ cs) => if sz=1∧0≤n∧n < len∧len≤cs.length then some (.p id (off+n.toNat)) else none
  | _ => none
def iaddrL (h : Hp) (sz : Nat) : LV→LV→Option LV
  | .v (.sl _ sz' rows),.v (.int _ n) => if sz'=sz∧0≤n then pcR rows[n.toNat]? else none
  | .s id off len,.v (.int _ n) => iaddrS sz id off len n (h id)
  | _,_ => none
def aaddrL (len sz : Nat) (l : LV) : LV→Option LV
  | .v (.int _ n) => if 0≤n∧n < len then faddrL (n.toNat * sz) l else none
  | _ => none
def ixaL (len sz : Nat) (ag : Bool) : LV→LV→Option LV
  | .agg cs,.v (.int _ n) => if 0≤n∧n < len then cut ag cs (n.toNat * sz) sz else none
  | _,_ => none
def byteR : Option UInt8→Option LV
  | some b => some (.v (.int .u8 b.toNat))
  | none => none
def ixsL : LV→LV→Option LV
  | .v (.str s),.v (.int _ n) => if 0≤n then byteR s.data.toList[n.toNat]? else none
  | _,_ => none
def cutZ (z : ByteArray) : Option Nat→Option Nat→Option LV
  | some h,some l => some (.v (.str (z.extract l h)))
  | _,_ => none
def sslL (e : Nat→LV) (lo hi : Option X) : LV→Option LV
  | .v (.str z) => cutZ z (bndX e z.size hi (some z.size)) (bndX e 0 lo (bndX e z.size hi (some z.size)))
  | _ => none
def s2bL : LV→Option LV
  | .v (.str z) => if z.size≤140737488355328 then some (.v (.sl .shared 1 (byteRows z.data.toList))) else none
  | _ => none
def cvbO (st : St) (d id len : Nat) : Option Ob→Option St
  | some (.arr false _ 1 (r :: rows)) => if (r :: rows).length=len then some { env:=upd st.env d (.v (.sl .shared 1 (r :: rows))),hp:=upd st.hp id (some .dead) } else none
  | _ => none
def cvbL (st : St) (d : Nat) : LV→Option St
  | .s id 0 len => cvbO st d id len (st.hp id)
  | _ => none
def flOf (hi : Bool) : Fl→Fl
  | .tight e => if hi then .tight e else .shared
  | _ => .shared
def cutV (fl : Fl) (sz : Nat) (rows : List (List TV)) : Option Nat→Option Nat→Option LV
  | some h,some l => some (.v (.sl (flOf (decide (h=rows.length)) fl) sz ((rows.drop l).take (h - l))))
  | _,_ => none
def cutM (e : TypeId) (sz : Nat) (rows : List (List TV)) : Option Nat→Option Nat→Option Nat→Option LV
  | some m,some h,some l => some (.v (.sl (if h=m then .tight e else .shared) sz ((rows.drop l).take (h - l))))
  | _,_,_ => none
def cutS (id off : Nat) : Option Nat→Option Nat→Option LV
  | some h,some l => some (.s id (off+l) (h - l))
  | _,_ => none
def cutO (sz id off : Nat) (h l : Option Nat) : Option Ob→Option LV
  | some (.arr _ _ sz' _) => if sz'=sz then cutS id off h l else none
  | _ => none
def cutV2 (e : Nat→LV) (lo hi : Option X) (fl : Fl) (sz : Nat) (rows : List (List TV)) : Option LV :=
  cutV fl sz rows (bndX e rows.length hi (some rows.length)) (bndX e 0 lo (bndX e rows.length hi (some rows.length)))
def cutV3 (te : TypeId) (e : Nat→LV) (lo hi : Option X) (m : X) (sz : Nat) (rows : List (List TV)) : Option LV :=
  cutM te sz rows (bndX e 0 (some m) (some rows.length)) (bndX e 0 hi (bndX e 0 (some m) (some rows.length)))
    (bndX e 0 lo (bndX e 0 hi (bndX e 0 (some m) (some rows.length))))
def sliceL (hp : Hp) (te : TypeId) (sz : Nat) (e : Nat→LV) (lo hi : Option X) : Option X→LV→Option LV
  | none,.v (.sl fl sz' rows) => if sz'=sz then cutV2 e lo hi fl sz rows else none
  | some m,.v (.sl _ sz' rows) => if sz'=sz then cutV3 te e lo hi m sz rows else none
  | none,.s id off len => cutO sz id off (bndX e len hi (some len)) (bndX e 0 lo (bndX e len hi (some len))) (hp id)
  | _,_ => none
def appW (lo : Nat) (st : St) (d id len sz bytes : Nat) (cs : List LV) : List (List TV)→Option St
  | [[t]] => if len=cs.length∧sz=1∧(len+1) * bytes≤140737488355328 then
      mkO d (lo+d) (.var false (cs++[.v t])) (.s (lo+d) 0 (len+1)) { st with hp:=upd st.hp id (some .dead) } else none
  | _ => none
def appS (lo : Nat) (st : St) (d id len : Nat) (e : TypeId) (sz bytes : Nat) (new : List (List TV)) : Option Ob→Option St
  | some (.arr false e' sz' rows) => if e'=e∧sz'=sz∧(len+new.length) * bytes≤140737488355328 then
      mkO d (lo+d) (.arr false e sz (rows.take len++new)) (.s (lo+d) 0 (len+new.length)) { st with hp:=upd st.hp id (some .dead) } else none
  | some (.var false cs) => appW lo st d id len sz bytes cs new
  | _ => none
def appV (lo : Nat) (st : St) (d : Nat) (e : TypeId) (sz : Nat) : List (List TV)→Option St
  | [[.sl (.tight e2) z []]] => mkO d (lo+d) (.var false [.v (.sl (.tight e2) z [])]) (.s (lo+d) 0 1) st
  | new => mkO d (lo+d) (.arr false e sz new) (.s (lo+d) 0 new.length) st
def appN (lo : Nat) (st : St) (d : Nat) (e : TypeId) (sz : Nat) (new : List (List TV)) : Option St :=
  if lo < 1000000000000 then mkO d (lo+d) (.arr false e sz new) (.s (lo+d) 0 new.length) st else appV lo st d e sz new
def appT (lo : Nat) (st : St) (d : Nat) (e : TypeId) (sz bytes : Nat) (new : List (List TV)) : List (List TV)→Option St
  | [] => if new.length * bytes≤140737488355328 then appN lo st d e sz new else none
  | r :: rows => if new.isEmpty then some (st.set d (.v (.sl (.tight e) sz (r :: rows)))) else
      if ((r :: rows).length+new.length) * bytes≤140737488355328 then mkO d (lo+d) (.arr false e sz (r :: rows++new)) (.s (lo+d) 0 ((r :: rows).length+new.length)) st else none
def appL (lo : Nat) (st : St) (d : Nat) (e : TypeId) (sz bytes : Nat) (new : List (List TV)) : LV→Option St
  | .v (.sl (.tight _) sz' rows) => if sz'=sz then appT lo st d e sz bytes new rows else none
  | .s id 0 len => appS lo st d id len e sz bytes new (st.hp id)
  | _ => none
def appK (lo : Nat) (st : St) (d : Nat) (e : TypeId) (sz bytes : Nat) (x : LV) : Option (Nat × List (List TV))→Option St
  | some (sz',new) => if sz'=sz then appL lo st d e sz bytes new x else none
  | none => none
def copyO (st : St) (d id off n sz : Nat) (new : List (List TV)) : Option Ob→Option St
  | some (.arr false e sz' rows) => if sz'=sz then some { env:=upd st.env d (.v (.int .i64 n)),hp:=upd st.hp id (some (.arr false e sz (rows.take off++new++rows.drop (off+n)))) } else none
  | _ => none
def copyL (st : St) (d sz : Nat) (new : List (List TV)) : LV→Option St
  | .s id off len => copyO st d id off (min new.length len) sz (new.take (min new.length len)) (st.hp id)
  | _ => none
def copyK (st : St) (d sz : Nat) (x : LV) : Option (Nat × List (List TV))→Option St
  | some (sz',new) => if sz'=sz then copyL st d sz new x else none
  | none => none
def extL (i : Nat) : LV→Option LV
  | .tup vs => vs[i]?
  | _ => none
def mksK (lo : Nat) (st : St) (d : Nat) (e : TypeId) (zrow : List TV) (bytes : Nat) : LV→LV→Option St
  | .v (.int .i64 n),.v (.int .i64 c) => if 0≤n∧c=n∧n * bytes≤140737488355328 then mkO d (lo+d) (.arr false e zrow.length (List.replicate n.toNat zrow)) (.s (lo+d) 0 n.toNat) st else none
  | _,_ => none

def nilB (neg : Bool) : Option Bool→Option TV
  | some b => some (.bool (if neg then !b else b))
  | none => none
def isnilL : Bool→LV→Option Bool
  | false,.v (.sl _ _ (_ :: _)) => some false
  | false,.s _ _ (_+1) => some false
  | true,.p _ _ => some false
  | true,.pe _ _ _ => some false
  | true,.v (.pc _) => some false
  | _,_ => none
def appzK (lo : Nat) (st : St) (d : Nat) (e : TypeId) (zrow : List TV) (bytes : Nat) : LV→LV→Option St
  | .v (.sl (.tight _) sz []),.v (.int .i64 n) => if sz=zrow.length∧0≤n∧n * bytes≤140737488355328 then
      mkO d (lo+d) (.arr false e zrow.length (List.replicate n.toNat zrow)) (.s (lo+d) 0 n.toNat) st else none
  | _,_ => none

/-! ### maps: keys that are compared cell by cell -/
def findM (ks : List Lk) (key : List LV) : List (List TV × List TV)→Option (Option (List TV))
  | [] => some none
  | (a, v) :: r => match eqCells ks key (liftV a) with
    | some true => some (some v)
    | some false => findM ks key r
    | none => none
def consM (x : List TV × List TV) : Option (List (List TV × List TV))→Option (List (List TV × List TV))
  | some r => some (x :: r)
  | none => none
def updM (ks : List Lk) (key : List LV) (kc vc : List TV) : List (List TV × List TV)→Option (List (List TV × List TV))
  | [] => some [(kc,vc)]
  | (a, v) :: r => match eqCells ks key (liftV a) with
    | some true => some ((kc,vc) :: r)
    | some false => consM (a,v) (updM ks key kc vc r)
    | none => none
def delM (ks : List Lk) (key : List LV) : List (List TV × List TV)→Option (List (List TV × List TV))
  | [] => some []
  | (a, v) :: r => match eqCells ks key (liftV a) with
    | some true => some r
    | some false => consM (a,v) (delM ks key r)
    | none => none
def mgetP (b : Bool) : Bool→Option LV→Option LV
  | true,some l => some (.tup [l,.v (.bool b)])
  | false,some l => some l
  | _,none => none
def mgetR (vag : Bool) (zs : List TV) (cok : Bool) : Option (Option (List TV))→Option LV
  | some (some v) => mgetP true cok (packL vag (liftV v))
  | some none => mgetP false cok (packL vag (liftV zs))
  | none => none
def oneOf : Bool→LV→Option (List LV)
  | true,.agg cs => some cs
  | false,.v (.int k n) => some [.v (.int k n)]
  | false,.v (.bool b) => some [.v (.bool b)]
  | false,.v (.str z) => some [.v (.str z)]
  | false,.v (.sl a b c) => some [.v (.sl a b c)]
  | false,.s a b c => some [.s a b c]
  | _,_ => none
def mgetO (ks : List Lk) (kag vag : Bool) (zs : List TV) (cok : Bool) (key : List LV) : Option Ob→Option LV
  | some (.map _ kag' vag' ents) => if kag'=kag∧vag'=vag∧key.length=ks.length then mgetR vag zs cok (findM ks key ents) else none
  | _ => none
def mgetL (h : Hp) (ks : List Lk) (kag vag : Bool) (zs : List TV) (cok : Bool) : Option (List LV)→LV→Option LV
  | some key,.m id => mgetO ks kag vag zs cok key (h id)
  | _,_ => none
def scalTV : LV→Option TV
  | .v (.int k n) => some (.int k n)
  | .v (.bool b) => some (.bool b)
  | .v (.str s) => some (.str s)
  | _ => none
def consO : Option TV→Option (List TV)→Option (List TV)
  | some t,some ts => some (t :: ts)
  | _,_ => none
def scalTVs : List LV→Option (List TV)
  | [] => some []
  | l :: ls => consO (scalTV l) (scalTVs ls)
def setMap (st : St) (h : Hp) (id : Nat) (kag vag : Bool) : Option (List (List TV × List TV))→Option St
  | some es => some { st with hp:=upd h id (some (.map false kag vag es)) }
  | none => none
def solidO (h : Hp) : Option (List LV)→Option (List TV × List Nat)
  | some ls => solidCells h ls
  | none => none
def mupdO (st : St) (id : Nat) (ks : List Lk) (kag vag : Bool) (n : Nat) (key : List LV) : Option (List TV)→Option (List TV × List Nat)→Option Ob→Option St
  | some kc,some (vc,is),some (.map false kag' vag' ents) => if kag'=kag∧vag'=vag∧kc.length=ks.length∧vc.length=n∧¬ id∈is then setMap st (freezeAll st.hp is) id kag vag (updM ks key kc vc ents) else none
  | _,_,_ => none
def mupdL (st : St) (ks : List Lk) (kag vag : Bool) (n : Nat) (val : Option (List TV × List Nat)) : Option (List LV)→LV→Option St
  | some key,.m id => mupdO st id ks kag vag n key (scalTVs key) val (st.hp id)
  | _,_ => none
def mdelO (st : St) (id : Nat) (ks : List Lk) (kag : Bool) (key : List LV) : Option Ob→Option St
  | some (.map false kag' vag ents) => if kag'=kag∧key.length=ks.length then setMap st st.hp id kag vag (delM ks key ents) else none
  | _ => none
def mdelL (st : St) (ks : List Lk) (kag : Bool) : Option (List LV)→LV→Option St
  | some key,.m id => mdelO st id ks kag key (st.hp id)
  | _,_ => none
def mlenO : Option Ob→Option TV
  | some (.map _ _ _ ents) => some (.int .i64 ents.length)
  | _ => none
def mlenL (h : Hp) : LV→Option TV
  | .m id => mlenO (h id)
  | _ => none

structure Rnd where
  bd : ICode
  p : Nat
  env : Nat→LV
  lo : Nat
  ks : List (Nat × Nat)
structure Cs where
  t : FuncId→List TV→Option TV
  i : FuncId→Nat→Hp→List LV→Option (LV × Hp)
  y : Option Rnd
  it : FuncId→Option ICode
def Cs.ring (C : Cs) (R : Rnd) : Cs:=⟨C.t,fun _ _ _ _ => none,some R,C.it⟩
def Cs.unring (C : Cs) : Cs:=⟨C.t,fun _ _ _ _ => none,none,C.it⟩
def maskE (lo : Nat) (e : Nat→LV) : Nat→LV:=fun k => maskL lo [] (e k)
section
variable (C : Cs) (lo : Nat)
def callT (d : Nat) : Option (LV × St)→Option St
  | some (l,st) => some (st.set d l)
  | none => none
def callR (d : Nat) (is : List Nat) (st : St) : Option TV→Option St
  | some r => callT d (thaw (lo+(1000+d * 64)) r { st with hp:=if is.isEmpty || r.flat then st.hp else freezeAll st.hp is })
  | none => none
def callA (d : Nat) (f : FuncId) (st : St) : Option (List TV × List Nat)→Option St
  | some (ts,is) => callR lo d is st (C.t f ts)
  | none => none
def callF (d : Nat) (args : List LV) (st : St) : LV→Option St
  | .fn f caps => callA C lo d f st (solidArgs st.hp (args++caps))
  | .v (.fn f caps) => callA C lo d f st (solidArgs st.hp (args++liftV caps))
  | _ => none

def icallK (d lo : Nat) (st : St) : Option (LV × Hp)→Option St
  | some (l,h) => some { env:=upd (maskE lo st.env) d l,hp:=h }
  | none => none
def loneK (d : Nat) (st : St) : Option TV→Option St
  | some r => if r.lone=true then callT d (thaw (lo+(1000+d * 64)) r st) else none
  | none => none
def loneA (d : Nat) (f : FuncId) (st : St) : Option (List TV × List Nat)→Option St
  | some (ts,_) => loneK lo d st (C.t f ts)
  | none => none
def icallF (d k : Nat) (args : List LV) (st : St) : LV→Option St
  | .fn f caps => if k=0 then loneA C lo d f st (solidArgs st.hp (args++caps)) else icallK d (lo+1000000 * k) st (C.i f (lo+1000000 * k) st.hp (args++caps))
  | .v (.fn f caps) => if k=0 then loneA C lo d f st (solidArgs st.hp (args++liftV caps)) else icallK d (lo+1000000 * k) st (C.i f (lo+1000000 * k) st.hp (args++liftV caps))
  | _ => none

def evOp (st : St) : IOp→Option St
  | .mv d x => some (st.set d (x.rd st.env))
  | .pick d c a b => pickK st d (a.rd st.env) (b.rd st.env) (c.rd st.env)
  | .alloc d zs => mkO d (lo+d) (.var false zs) (.p (lo+d) 0) st
  | .box d x n => boxK lo st d n (x.rd st.env).cells
  | .build d zs parts => setM st d (buildCells st.env zs parts)
  | .bslice d e sz parts => bsliceK lo st d e sz (tightR lo parts (solidRows st.hp st.env sz parts))
  | .load d a n ag => setM st d (loadL st.hp n ag (a.rd st.env))
  | .store a x n => storeQ lo st n (x.rd st.env) (a.rd st.env)
  | .nchk d x => setM st d (nchkL (x.rd st.env))
  | .bin d bt op x y => setV st d (binV bt op (x.rd st.env) (y.rd st.env))
  | .eqs d neg ks x y => setV st d (eqL neg ks (x.rd st.env) (y.rd st.env))
  | .un d op x => setV st d (unV op (x.rd st.env))
  | .conv d k x => setV st d (convV k (x.rd st.env))
  | .fld d x off n ag => setM st d (fldL off n ag (x.rd st.env))
  | .faddr d a off => setM st d (faddrL off (a.rd st.env))
  | .aaddr d x i len sz => setM st d (aaddrL len sz (x.rd st.env) (i.rd st.env))
  | .iaddr d x i sz => setM st d (iaddrL st.hp sz (x.rd st.env) (i.rd st.env))
  | .ixa d x i len sz ag => setM st d (ixaL len sz ag (x.rd st.env) (i.rd st.env))
  | .ixs d x i => setM st d (ixsL (x.rd st.env) (i.rd st.env))
  | .slice d x lo hi mx e sz => setM st d (sliceL st.hp e sz st.env lo hi mx (x.rd st.env))
  | .len d z x => setV st d (lenV z (x.rd st.env))
  | .cap d x => setV st d (capV (x.rd st.env))
  | .append d x y e sz bytes => appK lo st d e sz bytes (x.rd st.env) (rowsOf st.hp (y.rd st.env))
  | .copy d x y sz => copyK st d sz (x.rd st.env) (rowsOf st.hp (y.rd st.env))
  | .b2s d x => setV st d (b2sK (rowsB st.hp (x.rd st.env)))
  | .ext d x i => setM st d (extL i (x.rd st.env))
  | .mkfn d f caps => some (st.set d (.fn f (rds st.env caps)))
  | .call d f args => callF C lo d (rds st.env args) st (f.rd st.env)
  | .icall d k f args => icallF C lo d k (rds st.env args) st (f.rd st.env)
  | .mn d args => setM st d (foldMin (rds st.env args))
  | .mx d args => setM st d (foldMax (rds st.env args))
  | .mkslice d l c e zrow bytes => mksK lo st d e zrow bytes (l.rd st.env) (c.rd st.env)
  | .isnil d neg ptr x => setV st d (nilB neg (isnilL ptr (x.rd st.env)))
  | .appz d x n e zrow bytes => appzK lo st d e zrow bytes (x.rd st.env) (n.rd st.env)
  | .mkmap d kag vag => mkO d (lo+d) (.map false kag vag []) (.m (lo+d)) st
  | .mget d ks kag vag zs cok m k => setM st d (mgetL st.hp ks kag vag zs cok (oneOf kag (k.rd st.env)) (m.rd st.env))
  | .mupd ks kag vag n m k v => mupdL st ks kag vag n (solidO st.hp (oneOf vag (v.rd st.env))) (oneOf kag (k.rd st.env)) (m.rd st.env)
  | .mdel ks kag m k => mdelL st ks kag (oneOf kag (k.rd st.env)) (m.rd st.env)
  | .mlen d m => setV st d (mlenL st.hp (m.rd st.env))
  | .ssl d x lo hi => setM st d (sslL st.env lo hi (x.rd st.env))
  | .s2b d x => setM st d (s2bL (x.rd st.env))
  | .cvb d x => cvbL st d (x.rd st.env)
  | .sst a x n => sstK st n (a.rd st.env) (solidCell st.hp (x.rd st.env))
  | .bad => none

def IOp.dst : IOp→Option Nat
  | .mv d _ => some d
  | .pick d _ _ _ => some d
  | .alloc d _ => some d
  | .box d _ _ => some d
  | .build d _ _ => some d
  | .bslice d _ _ _ => some d
  | .load d _ _ _ => some d
  | .store _ _ _ => none
  | .nchk d _ => some d
  | .bin d _ _ _ _ => some d
  | .eqs d _ _ _ _ => some d
  | .un d _ _ => some d
  | .conv d _ _ => some d
  | .fld d _ _ _ _ => some d
  | .faddr d _ _ => some d
  | .iaddr d _ _ _ => some d
  | .aaddr d _ _ _ _ => some d
  | .ixa d _ _ _ _ _ => some d
  | .ixs d _ _ => some d
  | .slice d _ _ _ _ _ _ => some d
  | .len d _ _ => some d
  | .cap d _ => some d
  | .append d _ _ _ _ _ => some d
  | .copy d _ _ _ => some d
  | .b2s d _ => some d
  | .ext d _ _ => some d
  | .mkfn d _ _ => some d
  | .call d _ _ => some d
  | .icall d _ _ _ => some d
  | .mn d _ => some d
  | .mx d _ => some d
  | .mkslice d _ _ _ _ _ => some d
  | .isnil d _ _ _ => some d
  | .appz d _ _ _ _ _ => some d
  | .mkmap d _ _ => some d
  | .mget d _ _ _ _ _ _ _ => some d
  | .mupd _ _ _ _ _ _ _ => none
  | .mdel _ _ _ _ => none
  | .mlen d _ => some d
  | .ssl d _ _ _ => some d
  | .s2b d _ => some d
  | .cvb d _ => some d
  | .sst _ _ _ => none
  | .bad => none

def X.rs : X→List Nat
  | .t i => [i]
  | _ => []
def xrs : List X→List Nat
  | [] => []
  | x :: xs => x.rs++xrs xs
def oxrs : Option X→List Nat
  | some x => x.rs
  | none => []
def prs : List (Nat × Nat × X)→List Nat
  | [] => []
  | (_,_,x) :: ps => x.rs++prs ps
def IOp.reads : IOp→List Nat
  | .mv _ x => x.rs
  | .pick _ c a b => c.rs++(a.rs++b.rs)
  | .alloc _ _ => []
  | .box _ x _ => x.rs
  | .build _ _ ps => prs ps
  | .bslice _ _ _ ps => xrs ps
  | .load _ a _ _ => a.rs
  | .store a x _ => a.rs++x.rs
  | .nchk _ x => x.rs
  | .bin _ _ _ x y => x.rs++y.rs
  | .eqs _ _ _ x y => x.rs++y.rs
  | .un _ _ x => x.rs
  | .conv _ _ x => x.rs
  | .fld _ x _ _ _ => x.rs
  | .faddr _ a _ => a.rs
  | .iaddr _ x i _ => x.rs++i.rs
  | .aaddr _ x i _ _ => x.rs++i.rs
  | .ixa _ x i _ _ _ => x.rs++i.rs
  | .ixs _ x i => x.rs++i.rs
  | .slice _ x l h m _ _ => x.rs++(oxrs l++(oxrs h++oxrs m))
  | .len _ _ x => x.rs
  | .cap _ x => x.rs
  | .append _ x y _ _ _ => x.rs++y.rs
  | .copy _ x y _ => x.rs++y.rs
  | .b2s _ x => x.rs
  | .ext _ x _ => x.rs
  | .mkfn _ _ cs => xrs cs
  | .call _ f args => f.rs++xrs args
  | .icall _ _ f args => f.rs++xrs args
  | .mn _ args => xrs args
  | .mx _ args => xrs args
  | .mkslice _ l c _ _ _ => l.rs++c.rs
  | .isnil _ _ _ x => x.rs
  | .appz _ x n _ _ _ => x.rs++n.rs
  | .mkmap _ _ _ => []
  | .mget _ _ _ _ _ _ m k => m.rs++k.rs
  | .mupd _ _ _ _ m k v => m.rs++(k.rs++v.rs)
  | .mdel _ _ m k => m.rs++k.rs
  | .mlen _ m => m.rs
  | .ssl _ x l h => x.rs++(oxrs l++oxrs h)
  | .s2b _ x => x.rs
  | .cvb _ x => x.rs
  | .sst a x _ => a.rs++x.rs
  | .bad => []
def IOper.reads : IOper→List Nat
  | ⟨o,none⟩ => o.reads
  | ⟨o,some (j,_)⟩ => j :: o.reads

def skipK (st : St) : Option Nat→Option St
  | some d => some (st.set d (.tup []))
  | none => some st
def guardK (st : St) (o : IOp) (want : Bool) : LV→Option St
  | .v (.bool b) => if b=want then evOp C lo st o else skipK st o.dst
  | .tup [] => skipK st o.dst
  | _ => none
def evOper (st : St) : IOper→Option St
  | ⟨o,none⟩ => evOp C lo st o
  | ⟨o,some (j,want)⟩ => guardK C lo st o want (st.env j)

def evOps : List IOper→Option St→Option St
  | [],st => st
  | o :: os,some st => evOps os (evOper C lo st o)
  | _ :: _,none => none
end

/-! ### what is kept,more -/
def keepEnv (lo : Nat) (j : List (Nat × Nat)) (e : Nat→LV) : List Nat→Nat→LV
  | [] => e0
  | k :: ks => upd (keepEnv lo j e ks) k (maskL lo j (e k))
def keepLo (j : List (Nat × Nat)) (h : Hp) : Nat→Hp
  | 0 => h0
  | lo+1 => fun i => if i < lo+1 then maskO (lo+1) j (h i) else none
def keepHp (lo : Nat) (j : List (Nat × Nat)) (h : Hp) : List (Nat × Nat)→Hp
  | [] => keepLo j h lo
  | (a,b) :: r => upd (keepHp lo j h r) (lo+b) (maskO lo j (h (lo+a)))
def GC.run (lo : Nat) (g : GC) (st : St) : St:={ env:=keepEnv lo g.ids st.env g.slots,hp:=keepHp lo g.ids st.hp g.ids }

/-! ### code -/
def regK (lo : Nat) (g : GC) : Option St→Option (Ex × St)
  | some st => some (.norm,g.run lo st)
  | none => none
def seqK (k : St→Option (Ex × St)) : Option (Ex × St)→Option (Ex × St)
  | some (.norm,st) => k st
  | some (.exit i,st) => some (.exit i,st)
  | some (.ret,st) => some (.ret,st)
  | none => none
def blockK (id : Nat) : Option (Ex × St)→Option (Ex × St)
  | some (.exit i,st) => if i=id then some (.norm,st) else some (.exit i,st)
  | some (.norm,st) => some (.norm,st)
  | some (.ret,st) => some (.ret,st)
  | none => none
def condK (a b : St→Option (Ex × St)) (st : St) : LV→Option (Ex × St)
  | .v (.bool c) => if c=true then a st else b st
  | _ => none

/-! ### an operation's footprint: what it looks at,what it turns or makes -/
structure Fp where
  rd : List Nat
  wr : List Nat
def fp0 : Fp:=⟨[],[]⟩
def fpA : LV→List Nat
  | .p id _ => [id]
  | .pe id _ _ => [id]
  | .s id _ _ => [id]
  | .m id => [id]
  | _ => []
def fpS : Option (List TV × List Nat)→List Nat
  | some (_,is) => is
  | none => []
def fpW (x : Option (List TV × List Nat)) : LV→List Nat
  | .p id _ => [id]
  | .pe id _ _ => id :: fpS x
  | _ => []
def fpV (h : Hp) : LV→LV→List Nat
  | .s id2 0 len,.p id off => [id,id2,off * 1000000+len]
  | x,l => fpW (solidCells h x.cells) l
def fpQ (lo : Nat) (h : Hp) (x l : LV) : List Nat:=if lo < 1000000000000 then fpW (solidCells h x.cells) l else fpV h x l
def fpM (x : Option (List TV × List Nat)) : LV→List Nat
  | .m id => id :: fpS x
  | _ => []
def fpR : Option (List (List TV) × List Nat)→List Nat
  | some (_,is) => is
  | none => []
def thawNs : Nat→List TV→List Nat
  | _,[] => []
  | k,.sl (.own _) _ _ :: ts => k :: thawNs (k+1) ts
  | k,_ :: ts => thawNs (k+1) ts
def thawN1 (k : Nat) : TV→List Nat
  | .agg cs => thawNs k cs
  | t => thawNs k [t]
def thawNVs : Nat→List TV→List Nat
  | _,[] => []
  | k,t :: ts => thawN1 k t++thawNVs (k+16) ts
def thawN (k : Nat) : TV→List Nat
  | .tup cs => thawNVs k cs
  | t => thawN1 k t
def fpCall (lo d : Nat) (is : List Nat) : Option TV→Fp
  | some r => ⟨is,(if r.flat then [] else is)++thawN (lo+(1000+d * 64)) r⟩
  | none => fp0
def fpCallA (C : Cs) (lo d : Nat) (f : FuncId) : Option (List TV × List Nat)→Fp
  | some (ts,is) => fpCall lo d is (C.t f ts)
  | none => fp0
def fpCallF (C : Cs) (lo d : Nat) (args : List LV) (h : Hp) : LV→Fp
  | .fn f caps => fpCallA C lo d f (solidArgs h (args++caps))
  | .v (.fn f caps) => fpCallA C lo d f (solidArgs h (args++liftV caps))
  | _ => fp0
def fpLone (lo d : Nat) (is : List Nat) : Option TV→Fp
  | some r => ⟨is,thawN (lo+(1000+d * 64)) r⟩
  | none => fp0
def fpLoneA (C : Cs) (lo d : Nat) (f : FuncId) : Option (List TV × List Nat)→Fp
  | some (ts,is) => fpLone lo d is (C.t f ts)
  | none => fp0
def fpICall (C : Cs) (lo d k : Nat) (args : List LV) (h : Hp) : LV→Fp
  | .fn f caps => if k=0 then fpLoneA C lo d f (solidArgs h (args++caps)) else fp0
  | .v (.fn f caps) => if k=0 then fpLoneA C lo d f (solidArgs h (args++liftV caps)) else fp0
  | _ => fp0
def fpOp (C : Cs) (lo : Nat) (st : St) : IOp→Fp
  | .alloc d _ => ⟨[],[lo+d]⟩
  | .box d _ _ => ⟨[],[lo+d]⟩
  | .bslice d _ sz parts => ⟨fpR (solidRows st.hp st.env sz parts),(lo+d) :: fpR (solidRows st.hp st.env sz parts)⟩
  | .load _ a _ _ => ⟨fpA (a.rd st.env),[]⟩
  | .iaddr _ x _ _ => ⟨fpA (x.rd st.env),[]⟩
  | .slice _ x _ _ _ _ _ => ⟨fpA (x.rd st.env),[]⟩
  | .store a x _ => ⟨[],fpQ lo st.hp (x.rd st.env) (a.rd st.env)⟩
  | .append d x y _ _ _ => ⟨fpA (x.rd st.env)++fpA (y.rd st.env),(lo+d) :: fpA (x.rd st.env)⟩
  | .copy _ x y _ => ⟨fpA (x.rd st.env)++fpA (y.rd st.env),fpA (x.rd st.env)⟩
  | .b2s _ x => ⟨fpA (x.rd st.env),[]⟩
  | .call d f args => fpCallF C lo d (rds st.env args) st.hp (f.rd st.env)
  | .icall d k f args => fpICall C lo d k (rds st.env args) st.hp (f.rd st.env)
  | .cvb _ x => ⟨[],fpA (x.rd st.env)⟩
  | .mkslice d _ _ _ _ _ => ⟨[],[lo+d]⟩
  | .appz d _ _ _ _ _ => ⟨[],[lo+d]⟩
  | .mkmap d _ _ => ⟨[],[lo+d]⟩
  | .mget _ _ _ _ _ _ m _ => ⟨fpA (m.rd st.env),[]⟩
  | .mupd _ _ vag _ m _ v => ⟨[],fpM (solidO st.hp (oneOf vag (v.rd st.env))) (m.rd st.env)⟩
  | .mdel _ _ m _ => ⟨[],fpA (m.rd st.env)⟩
  | .mlen _ m => ⟨fpA (m.rd st.env),[]⟩
  | _ => fp0
def fpG (C : Cs) (lo : Nat) (st : St) (o : IOp) (want : Bool) : LV→Fp
  | .v (.bool b) => if b=want then fpOp C lo st o else fp0
  | _ => fp0
def fpOper (C : Cs) (lo : Nat) (st : St) : IOper→Fp
  | ⟨o,none⟩ => fpOp C lo st o
  | ⟨o,some (j,want)⟩ => fpG C lo st o want (st.env j)
def meets : List Nat→List Nat→Bool
  | [],_ => false
  | a :: r,bs => bs.contains a || meets r bs
def apart (a b : Fp) : Bool:=!meets a.wr b.rd && !meets a.wr b.wr && !meets b.wr a.rd
def apartAll (f : Fp) (ord : Nat) : List (Nat × Fp)→Bool
  | [] => true
  | (i,g) :: gs => (ord.testBit i || apart g f) && apartAll f ord gs
def stepE (b : Bool) (x : Option St) : Option St:=if b then x else none
def stepD (fs : List (Nat × Fp)) (i ord : Nat) (k : List (Nat × Fp)→Option St→Option St) (st : Option St) : Fp→Option St
  | ⟨[],[]⟩ => k fs st
  | ⟨[],b :: w⟩ => stepE (apartAll ⟨[],b :: w⟩ ord fs) (k ((i,⟨[],b :: w⟩) :: fs) st)
  | ⟨a :: r,w⟩ => stepE (apartAll ⟨a :: r,w⟩ ord fs) (k ((i,⟨a :: r,w⟩) :: fs) st)
def evOpsD (C : Cs) (lo : Nat) : List IOper→List Nat→Nat→List (Nat × Fp)→Option St→Option St
  | [],_,_,_,st => st
  | o :: os,n :: ord,i,fs,some st => stepD fs i n (evOpsD C lo os ord (i+1)) (evOper C lo st o) (fpOper C lo st o)
  | _ :: _,_,_,_,_ => none

/-! ### a region in every order that may be drawn -/
def evIdx (C : Cs) (lo : Nat) (ios : List IOper) : List Nat→St→Option St
  | [],st => some st
  | i :: s, st => match ios[i]? with
    | none => evIdx C lo ios s st
    | some o => match evOper C lo st o with
      | some st' => evIdx C lo ios s st'
      | none => none
open Classical in
noncomputable def sameK (a b : Option (Ex × St)) : Option (Ex × St):=if a=b then a else none
noncomputable def evAll (C : Cs) (lo : Nat) (ios : List IOper) (g : GC) (st : St) : List (List Nat)→Option (Ex × St)
  | [] => none
  | [s] => regK lo g (evIdx C lo ios s st)
  | s :: t :: ss => sameK (regK lo g (evIdx C lo ios s st)) (evAll C lo ios g st (t :: ss))

/-! ### functions -/
inductive RV where
  | tmp (t : Nat)
  | cell (t n : Nat) (ag : Bool)
structure IFn where
  body : ICode
  res : List RV
def bindArgs : Nat→List TV→Nat→LV
  | _,[] => e0
  | k,t :: ts => upd (bindArgs (k+1) ts) k (inj t)
def offIds (id off : Nat) : List Nat:=if off=0 then [id] else [id,id]
def cellIds : LV→List Nat
  | .s id off _ => offIds id off
  | _ => []
def cellsIds : List LV→List Nat
  | [] => []
  | l :: ls => cellIds l++cellsIds ls
def resId : LV→List Nat
  | .agg cs => cellsIds cs
  | l => cellIds l
def resIds : List LV→List Nat
  | [] => []
  | l :: ls => resId l++resIds ls
def expS (one : Bool) (off len : Nat) : Option Ob→Option TV
  | some (.arr fz e sz rows) => if one=true∧fz=false∧off=0 then some (.sl (.own e) sz (rows.take len)) else some (.sl .shared sz ((rows.drop off).take len))
  | _ => none
def expFst : Option (TV × List Nat)→Option TV
  | some (t,_) => some t
  | none => none
def expC (h : Hp) (ids : List Nat) : LV→Option TV
  | .v (.sl (.tight e) sz []) => some (.sl (.own e) sz [])
  | .s id off len => expS (decide (ids.count id=1)) off len (h id)
  | l => expFst (solidCell h l)
def consE : Option TV→Option (List TV)→Option (List TV)
  | some t,some ts => some (t :: ts)
  | _,_ => none
def expCs (h : Hp) (ids : List Nat) : List LV→Option (List TV)
  | [] => some []
  | l :: ls => consE (expC h ids l) (expCs h ids ls)
def expA : Option (List TV)→Option TV
  | some ts => some (.agg ts)
  | none => none
def expL (h : Hp) (ids : List Nat) : LV→Option TV
  | .agg cs => expA (expCs h ids cs)
  | .p id off => expFst (solidArg h (.p id off))
  | .fn f cs => expFst (solidArg h (.fn f cs))
  | l => expC h ids l
def plainRes : List LV→Bool
  | [] => true
  | .p _ _ :: _ => false
  | .pe _ _ _ :: _ => false
  | .fn _ _ :: _ => false
  | _ :: ls => plainRes ls
def expLs (h : Hp) (ids : List Nat) : List LV→Option (List TV)
  | [] => some []
  | l :: ls => consE (expL h ids l) (expLs h ids ls)
def expT : Option (List TV)→Option TV
  | some [t] => some t
  | some ts => some (.tup ts)
  | none => none
def resL (st : St) : RV→Option LV
  | .tmp t => some (st.env t)
  | .cell t n ag => loadL st.hp n ag (st.env t)
def consL : Option LV→Option (List LV)→Option (List LV)
  | some l,some ls => some (l :: ls)
  | _,_ => none
def resLs (st : St) : List RV→Option (List LV)
  | [] => some []
  | r :: rs => consL (resL st r) (resLs st rs)
def expR (h : Hp) : Option (List LV)→Option TV
  | some ls => expT (expLs h (if plainRes ls then resIds ls else []) ls)
  | none => none
def finR (rs : List RV) : Option (Ex × St)→Option TV
  | some (.norm,st) => expR st.hp (resLs st rs)
  | some (.ret,st) => expR st.hp (resLs st rs)
  | _ => none
def start (args : List TV) : St:=⟨bindArgs 0 args,h0⟩

def itC (caps : List LV) : Option ICode→Option (ICode × List LV)
  | some c => some (c,caps)
  | none => none
def itF (C : Cs) : LV→Option (ICode × List LV)
  | .fn f caps => itC caps (C.it f)
  | .v (.fn f caps) => itC (liftV caps) (C.it f)
  | _ => none
def rngK (k : ICode→List LV→Option (Ex × St)) : Option (ICode × List LV)→Option (Ex × St)
  | some (c,caps) => k c caps
  | none => none
def rngD (lo : Nat) (env : Nat→LV) : Option (Ex × St)→Option (Ex × St)
  | some (.norm,st) => some (.norm,⟨env,keepHp (lo+1000000) [] st.hp []⟩)
  | some (.ret,st) => some (.norm,⟨env,keepHp (lo+1000000) [] st.hp []⟩)
  | _ => none
def bindL : Nat→List LV→Nat→LV
  | _,[] => e0
  | k,l :: ls => upd (bindL (k+1) ls) k l
def yldD (lo : Nat) (g : GC) (d : Nat) (env : Nat→LV) : Option (Ex × St)→Option (Ex × St)
  | some (.norm,st) => some (.norm,g.run lo ⟨upd env d (.v (.bool true)),st.hp⟩)
  | _ => none
def yldK (k : Rnd→St→Option (Ex × St)) : Option Rnd→Option St→Option (Ex × St)
  | some R,some st => k R st
  | _,_ => none
noncomputable def ev (C : Cs) (lo : Nat) : Nat→ICode→St→Option (Ex × St)
  | 0,_,_ => none
  | _+1,.skip,st => some (.norm,st)
  | _+1,.gc g,st => some (.norm,g.run lo st)
  | _+1,.region ops g,st => regK lo g (evOps C lo ops (some st))
  | _+1,.draw ops ord g,st => regK lo g (evOpsD C lo ops ord 0 [] (some st))
  | _+1,.draws ops ss g,st => evAll C lo ops g st ss
  | n+1,.seq a b,st => seqK (ev C lo n b) (ev C lo n a st)
  | n+1,.cond c a b,st => condK (ev C lo n a) (ev C lo n b) st (c.rd st.env)
  | n+1,.block id b,st => blockK id (ev C lo n b st)
  | n+1,.loop b,st => seqK (ev C lo n (.loop b)) (ev C lo n b st)
  | _+1,.exit id,st => some (.exit id,st)
  | _+1,.ret,st => some (.ret,st)
  | _+1,.bad,_ => none
  | n+1,.rng x p ac bd g ks,st => rngK (fun c caps => rngD lo (g.run lo st).env (ev (C.ring ⟨.seq ac bd,p,(g.run lo st).env,lo,ks⟩) (lo+1000000) n c ⟨bindL 1 caps,(g.run lo st).hp⟩)) (itF C (x.rd (g.run lo st).env))
  | n+1,.yld d a o x g,st => yldK (fun R st1 => yldD lo g d (fun k => maskL R.lo R.ks (st1.env k)) (ev C.unring R.lo n R.bd ⟨upd R.env R.p (x.rd st1.env),st1.hp⟩)) C.y (evOps C lo [o] (some (st.set a .u)))

inductive Orc where
  | done (r : Option TV)
  | ask (f : FuncId) (args : List TV) (k : TV→Orc)
def orcK (k : TV→Option TV) : Option TV→Option TV
  | some r => k r
  | none => none
def Orc.run (C : FuncId→List TV→Option TV) : Orc→Option TV
  | .done r => r
  | .ask f args k => orcK (fun r => (k r).run C) (C f args)
inductive FEnt where
  | code (fn : IFn)
  | ext (g : List TV→Option TV)
  | rel (g : List TV→Orc)
  | inn (g : Nat→Hp→List LV→Option (LV × Hp))
noncomputable def evFn (C : Cs) (n : Nat) (args : List TV) : Option FEnt→Option TV
  | some (.code fn) => finR fn.res (ev C 0 n fn.body (start args))
  | some (.ext g) => g args
  | some (.rel g) => (g args).run C.t
  | _ => none
def tupI (h : Hp) : Option (List LV)→Option (LV × Hp)
  | some [l] => some (l,h)
  | some ls => some (.tup ls,h)
  | none => none
def finI (rs : List RV) : Option (Ex × St)→Option (LV × Hp)
  | some (.norm,st) => tupI st.hp (resLs st rs)
  | some (.ret,st) => tupI st.hp (resLs st rs)
  | _ => none
def startI (args : List LV) (h : Hp) : St:=⟨bindL 0 args,h⟩
noncomputable def evFnI (C : Cs) (n lo : Nat) (h : Hp) (args : List LV) : Option FEnt→Option (LV × Hp)
  | some (.code fn) => finI fn.res (ev C lo n fn.body (startI args h))
  | some (.inn g) => g lo h args
  | _ => none
def bodyOf : Option FEnt→Option ICode
  | some (.code fn) => if fn.res.isEmpty then some fn.body else none
  | _ => none
noncomputable def evF (F : FuncId→Option FEnt) : Nat→Cs
  | 0 => ⟨fun _ _ => none,fun _ _ _ _ => none,none,fun f => bodyOf (F f)⟩
  | n+1 => ⟨fun f args => evFn (evF F n) n args (F f),fun f lo h args => evFnI (evF F n) n lo h args (F f),none,fun f => bodyOf (F f)⟩

def mayB (s : ByteArray) : Bool:=s.data.toList.all fun b => decide (32≤b.toNat) && decide (b.toNat≤126)

end Go.Proofs.Ytcecojdeljbjoaa.Sx
namespace Go.Proofs.Ytcecojdeljbjoaa.Sx
open Go

theorem seqK_mono {k k' : St→Option (Ex × St)} (hk : ∀ st r,k st=some r→k' st=some r) {x x' : Option (Ex × St)} (hx : ∀ r,x=some r→x'=some r) {r : Ex × St}
    (h : seqK k x=some r) : seqK k' x'=some r:=by
  cases x with
  | none => cases h
  | some y =>
    have:=hx _ rfl
    subst this
    obtain ⟨e,st⟩:=y
    cases e with
    | norm => exact hk _ _ h
    | exit i => exact h
    | ret => exact h

theorem blockK_mono {id : Nat} {x x' : Option (Ex × St)} (hx : ∀ r,x=some r→x'=some r) {r : Ex × St} (h : blockK id x=some r) : blockK id x'=some r:=by
  cases x with
  | none => cases h
  | some y => rw [hx _ rfl]; exact h

theorem condK_mono {a b a' b' : St→Option (Ex × St)} (ha : ∀ st r,a st=some r→a' st=some r) (hb : ∀ st r,b st=some r→b' st=some r) {st : St} {l : LV} {r : Ex × St}
    (h : condK a b st l=some r) : condK a' b' st l=some r:=by
  unfold condK at h ⊢
  split at h
  · split at h
    · rename_i hc; simp only [hc,if_true]; exact ha _ _ h
    · rename_i hc; simp only [hc]; exact hb _ _ h
  · cases h

theorem rngK_mono {k k' : ICode→List LV→Option (Ex × St)} (hk : ∀ c l r,k c l=some r→k' c l=some r) {x : Option (ICode × List LV)} {r : Ex × St} (h : rngK k x=some r) : rngK k' x=some r:=by
  cases x with
  | none => cases h
  | some y => exact hk _ _ _ h
theorem rngD_mono {lo : Nat} {env : Nat→LV} {x x' : Option (Ex × St)} (hx : ∀ r,x=some r→x'=some r) {r : Ex × St} (h : rngD lo env x=some r) : rngD lo env x'=some r:=by
  cases x with
  | none => cases h
  | some y => rw [hx _ rfl]; exact h
theorem yldK_mono {k k' : Rnd→St→Option (Ex × St)} (hk : ∀ c l r,k c l=some r→k' c l=some r) {y : Option Rnd} {x : Option St} {r : Ex × St} (h : yldK k y x=some r) : yldK k' y x=some r:=by
  cases y with
  | none => cases h
  | some y => cases x with
    | none => cases h
    | some x => exact hk _ _ _ h
theorem yldD_mono {lo : Nat} {g : GC} {d : Nat} {env : Nat→LV} {x x' : Option (Ex × St)} (hx : ∀ r,x=some r→x'=some r) {r : Ex × St} (h : yldD lo g d env x=some r) : yldD lo g d env x'=some r:=by
  cases x with
  | none => cases h
  | some y => rw [hx _ rfl]; exact h

section
variable (C : Cs) (lo : Nat)

theorem ev_step (n : Nat) : ∀ (c : ICode) (st : St) (r : Ex × St),ev C lo n c st=some r→ev C lo (n+1) c st=some r:=by
  induction n generalizing C lo with
  | zero => intro c st r h; cases h
  | succ n ih =>
    intro c st r h
    cases c with
    | skip => exact h
    | region ops g => exact h
    | draw ops ord g => exact h
    | draws ops ss g => exact h
    | gc g => exact h
    | seq a b => exact seqK_mono (fun st r h => ih C lo b st r h) (fun r h => ih C lo a st r h) h
    | cond c a b => exact condK_mono (fun st r h => ih C lo a st r h) (fun st r h => ih C lo b st r h) h
    | block id b => exact blockK_mono (fun r h => ih C lo b st r h) h
    | loop b => exact seqK_mono (fun st r h => ih C lo (.loop b) st r h) (fun r h => ih C lo b st r h) h
    | exit id => exact h
    | ret => exact h
    | bad => exact h
    | rng x p ac bd g ks => exact rngK_mono (fun c l r h => rngD_mono (fun r h => ih _ _ _ _ r h) h) h
    | yld d a o x g => exact yldK_mono (fun R st r h => yldD_mono (fun r h => ih _ _ _ _ r h) h) h

theorem ev_le {n m : Nat} (hnm : n≤m) {c : ICode} {st : St} {r : Ex × St} (h : ev C lo n c st=some r) : ev C lo m c st=some r:=by
  induction hnm with
  | refl => exact h
  | step _ ih => exact ev_step C lo _ c st r ih

theorem ev_one {n m : Nat} {c : ICode} {st : St} {r r' : Ex × St} (h : ev C lo n c st=some r) (h' : ev C lo m c st=some r') : r=r':=by
  have a:=ev_le C lo (Nat.le_max_left n m) h
  have b:=ev_le C lo (Nat.le_max_right n m) h'
  rw [a] at b
  exact Option.some.inj b

open Classical in
noncomputable def E (c : ICode) (st : St) : Option (Ex × St):=if h : ∃ r n,ev C lo n c st=some r then some h.choose else none

theorem E_some {c : ICode} {st : St} {r : Ex × St} : E C lo c st=some r↔∃ n,ev C lo n c st=some r:=by
  unfold E
  split
  · rename_i h
    constructor
    · intro hr; rw [← Option.some.inj hr]; exact h.choose_spec
    · rintro ⟨n, hn⟩
      obtain ⟨m,hm⟩:=h.choose_spec
      rw [ev_one C lo hm hn]
  · rename_i h
    constructor
    · intro hr; cases hr
    · rintro ⟨n,hn⟩; exact absurd ⟨r,n,hn⟩ h

theorem E_of {c : ICode} {st : St} {n : Nat} {r : Ex × St} (h : ev C lo n c st=some r) : E C lo c st=some r:=(E_some C lo).2 ⟨n,h⟩

theorem opt_ext {α : Type} {a b : Option α} (h : ∀ r,a=some r↔b=some r) : a=b:=by
  cases a with
  | none => cases b with
    | none => rfl
    | some y => exact ((h y).2 rfl)
  | some x => exact ((h x).1 rfl).symm

@[go_sem] theorem E_skip (st : St) : E C lo .skip st=some (.norm,st):=E_of C lo (n:=1) rfl
@[go_sem] theorem E_exit (i : Nat) (st : St) : E C lo (.exit i) st=some (.exit i,st):=E_of C lo (n:=1) rfl
@[go_sem] theorem E_ret (st : St) : E C lo .ret st=some (.ret,st):=E_of C lo (n:=1) rfl
@[go_sem] theorem E_bad (st : St) : E C lo .bad st=none:=by
  cases h : E C lo .bad st with
  | none => rfl
  | some r => obtain ⟨n,hn⟩:=(E_some C lo).1 h; cases n<;>cases hn
@[go_sem] theorem E_gc (g : GC) (st : St) : E C lo (.gc g) st=some (.norm,g.run lo st):=E_of C lo (n:=1) rfl
@[go_sem] theorem E_draw (ops : List IOper) (ord : List Nat) (g : GC) (st : St) : E C lo (.draw ops ord g) st=regK lo g (evOpsD C lo ops ord 0 [] (some st)):=by
  refine opt_ext fun r => ?_
  rw [E_some]
  constructor
  · rintro ⟨n, hn⟩; cases n with
    | zero => cases hn
    | succ n => exact hn
  · intro h; exact ⟨1,h⟩
@[go_sem] theorem E_draws (ops : List IOper) (ss : List (List Nat)) (g : GC) (st : St) : E C lo (.draws ops ss g) st=evAll C lo ops g st ss:=by
  refine opt_ext fun r => ?_
  rw [E_some]
  constructor
  · rintro ⟨n, hn⟩; cases n with
    | zero => cases hn
    | succ n => exact hn
  · intro h; exact ⟨1,h⟩
@[go_sem] theorem E_region (ops : List IOper) (g : GC) (st : St) : E C lo (.region ops g) st=regK lo g (evOps C lo ops (some st)):=by
  refine opt_ext fun r => ?_
  rw [E_some]
  constructor
  · rintro ⟨n, hn⟩; cases n with
    | zero => cases hn
    | succ n => exact hn
  · intro h; exact ⟨1,h⟩

theorem seqK_some {k : St→Option (Ex × St)} {x : Option (Ex × St)} {r : Ex × St} :
    seqK k x=some r↔(∃ st,x=some (.norm,st)∧k st=some r)∨(x=some r∧r.1≠.norm):=by
  cases x with
  | none => simp [seqK]
  | some y =>
    obtain ⟨e,st⟩:=y
    obtain ⟨e',st'⟩:=r
    cases e<;>simp [seqK]<;>(try (intro h; subst h; simp))<;>(try (intros; subst_vars; simp))

@[go_sem] theorem E_seq (a b : ICode) (st : St) : E C lo (.seq a b) st=seqK (E C lo b) (E C lo a st):=by
  refine opt_ext fun r => ?_
  rw [E_some,seqK_some]
  constructor
  · rintro ⟨n, hn⟩; cases n with
    | zero => cases hn
    | succ n =>
      rcases seqK_some.1 hn with ⟨st',h1,h2⟩ | ⟨h1,h2⟩
      · exact .inl ⟨st',E_of C lo h1,E_of C lo h2⟩
      · exact .inr ⟨E_of C lo h1,h2⟩
  · rintro (⟨st', h1, h2⟩ | ⟨h1, h2⟩)
    · obtain ⟨n, hn⟩ := (E_some C lo).1 h1
      obtain ⟨m,hm⟩:=(E_some C lo).1 h2
      exact ⟨max n m+1,seqK_some.2 (.inl ⟨st',ev_le C lo (Nat.le_max_left n m) hn,ev_le C lo (Nat.le_max_right n m) hm⟩)⟩
    · obtain ⟨n, hn⟩ := (E_some C lo).1 h1
      exact ⟨n+1,seqK_some.2 (.inr ⟨hn,h2⟩)⟩

theorem E_loop (b : ICode) (st : St) : E C lo (.loop b) st=seqK (E C lo (.loop b)) (E C lo b st):=by
  refine opt_ext fun r => ?_
  rw [E_some,seqK_some]
  constructor
  · rintro ⟨n, hn⟩; cases n with
    | zero => cases hn
    | succ n =>
      rcases seqK_some.1 hn with ⟨st',h1,h2⟩ | ⟨h1,h2⟩
      · exact .inl ⟨st',E_of C lo h1,E_of C lo h2⟩
      · exact .inr ⟨E_of C lo h1,h2⟩
  · rintro (⟨st', h1, h2⟩ | ⟨h1, h2⟩)
    · obtain ⟨n, hn⟩ := (E_some C lo).1 h1
      obtain ⟨m,hm⟩:=(E_some C lo).1 h2
      exact ⟨max n m+1,seqK_some.2 (.inl ⟨st',ev_le C lo (Nat.le_max_left n m) hn,ev_le C lo (Nat.le_max_right n m) hm⟩)⟩
    · obtain ⟨n, hn⟩ := (E_some C lo).1 h1
      exact ⟨n+1,seqK_some.2 (.inr ⟨hn,h2⟩)⟩

@[go_sem] theorem E_block (id : Nat) (b : ICode) (st : St) : E C lo (.block id b) st=blockK id (E C lo b st):=by
  refine opt_ext fun r => ?_
  rw [E_some]
  constructor
  · rintro ⟨n, hn⟩; cases n with
    | zero => cases hn
    | succ n => exact blockK_mono (fun r h => E_of C lo h) hn
  · intro h
    cases hb : E C lo b st with
    | none => rw [hb] at h; cases h
    | some y =>
      obtain ⟨n,hn⟩:=(E_some C lo).1 hb
      rw [hb] at h
      exact ⟨n+1,by rw [← h]; exact congrArg (blockK id) hn⟩

@[go_sem] theorem E_cond (c : X) (a b : ICode) (st : St) : E C lo (.cond c a b) st=condK (E C lo a) (E C lo b) st (c.rd st.env):=by
  refine opt_ext fun r => ?_
  rw [E_some]
  constructor
  · rintro ⟨n, hn⟩; cases n with
    | zero => cases hn
    | succ n => exact condK_mono (fun st r h => E_of C lo h) (fun st r h => E_of C lo h) hn
  · intro h
    have key : ∀ l,condK (E C lo a) (E C lo b) st l=some r→∃ n,condK (ev C lo n a) (ev C lo n b) st l=some r:=by
      intro l hl
      unfold condK at hl
      split at hl
      · split at hl
        · rename_i hc; obtain ⟨n,hn⟩:=(E_some C lo).1 hl; exact ⟨n,by simp only [condK,hc,if_true]; exact hn⟩
        · rename_i hc; obtain ⟨n,hn⟩:=(E_some C lo).1 hl; exact ⟨n,by simp only [condK,hc]; exact hn⟩
      · cases hl
    obtain ⟨n,hn⟩:=key _ h
    exact ⟨n+1,hn⟩

theorem E_rng (x : X) (p : Nat) (ac bd : ICode) (g : GC) (ks : List (Nat × Nat)) (st : St) : E C lo (.rng x p ac bd g ks) st =
    rngK (fun c caps => rngD lo (g.run lo st).env (E (C.ring ⟨.seq ac bd,p,(g.run lo st).env,lo,ks⟩) (lo+1000000) c ⟨bindL 1 caps,(g.run lo st).hp⟩)) (itF C (x.rd (g.run lo st).env)):=by
  refine opt_ext fun r => ?_
  rw [E_some]
  constructor
  · rintro ⟨n, hn⟩; cases n with
    | zero => cases hn
    | succ n => exact rngK_mono (fun c l r h => rngD_mono (fun r h => E_of _ _ h) h) hn
  · intro h
    cases hq : itF C (x.rd (g.run lo st).env) with
    | none => rw [hq] at h; cases h
    | some q =>
      obtain ⟨c,caps⟩:=q
      rw [hq] at h
      simp only [rngK] at h
      cases hy : E (C.ring ⟨.seq ac bd,p,(g.run lo st).env,lo,ks⟩) (lo+1000000) c ⟨bindL 1 caps,(g.run lo st).hp⟩ with
      | none => rw [hy] at h; cases h
      | some y =>
        obtain ⟨n,hn⟩:=(E_some _ _).1 hy
        rw [hy] at h
        refine ⟨n+1,?_⟩
        show rngK _ (itF C (x.rd (g.run lo st).env))=some r
        rw [hq]
        show rngD _ _ (ev _ _ n _ _)=some r
        rw [hn]
        exact h
theorem E_yld (d a : Nat) (o : IOper) (x : X) (g : GC) (st : St) : E C lo (.yld d a o x g) st =
    yldK (fun R st1 => yldD lo g d (fun k => maskL R.lo R.ks (st1.env k)) (E C.unring R.lo R.bd ⟨upd R.env R.p (x.rd st1.env),st1.hp⟩)) C.y (evOps C lo [o] (some (st.set a .u))):=by
  refine opt_ext fun r => ?_
  rw [E_some]
  constructor
  · rintro ⟨n, hn⟩; cases n with
    | zero => cases hn
    | succ n => exact yldK_mono (fun c l r h => yldD_mono (fun r h => E_of _ _ h) h) hn
  · intro h
    cases hR : C.y with
    | none => rw [hR] at h; cases h
    | some R =>
      cases hq : evOps C lo [o] (some (st.set a .u)) with
      | none => rw [hR,hq] at h; cases h
      | some st1 =>
        rw [hR,hq] at h
        simp only [yldK] at h
        cases hy : E C.unring R.lo R.bd ⟨upd R.env R.p (x.rd st1.env),st1.hp⟩ with
        | none => rw [hy] at h; cases h
        | some y =>
          obtain ⟨n,hn⟩:=(E_some _ _).1 hy
          rw [hy] at h
          refine ⟨n+1,?_⟩
          show yldK _ C.y (evOps C lo [o] (some (st.set a .u)))=some r
          rw [hR,hq]
          show yldD _ _ _ _ (ev _ _ n _ _)=some r
          rw [hn]
          exact h
end
end Go.Proofs.Ytcecojdeljbjoaa.Sx
namespace Go.Proofs.Ytcecojdeljbjoaa.Sx
open Go

def leaves (P : Program) : Nat→TypeId→List TypeId
  | 0,_ => []
  | n + 1, t => match P.underlying t with
    | some (.struct fs) => fs.toList.flatMap fun f => leaves P n f.type
    | some (.array k e) => (List.replicate k (leaves P n e)).flatten
    | _ => [t]

def cNil (P : Program) : Option TypeDesc→Option TV
  | some (.slice e) => some (.sl (.tight e) (P.cellsOf e) [])
  | _ => none
def cV (P : Program) (t : TypeId) : Value→Option TV
  | .int k n => some (.int k n)
  | .bool b => some (.bool b)
  | .string s => some (.str s)
  | .nilFunc => some .nilfn
  | .slice none 0 0 => cNil P (P.underlying t)
  | _ => none

def cVs (P : Program) : List TypeId→List Value→Option (List TV)
  | [],[] => some []
  | t :: ts, v :: vs => match cV P t v, cVs P ts vs with
    | some x,some xs => some (x :: xs)
    | _,_ => none
  | _,_ => none

def zeroT (P : Program) (t : TypeId) : Option (List TV) :=
  match (P.info? t).bind (·.zero) with
  | some z => cVs P (leaves P 20 t) z.cells.toList
  | none => none

def isUndef : Value→Bool
  | .tuple vs => vs.isEmpty
  | _ => false
def isNilP : Value→Bool
  | .pointer none => true
  | .map none => true
  | _ => false
def cC : Option TV→Option X
  | some x => some (.c (.v x))
  | none => none
def cX (P : Program) (t : TypeId) : Operand→Option X
  | .tmp i => some (.t i)
  | .const v => if isUndef v then some (.c (.tup [])) else if isNilP v then some (.c .u) else cC (cV P t v)
  | .func f => some (.fn f)
  | .global _ => none

def cLs (P : Program) : List TypeId→List Value→Option (List LV)
  | [],[] => some []
  | t :: ts, v :: vs => match (if isNilP v then some .u else (cV P t v).map .v), cLs P ts vs with
    | some x,some xs => some (x :: xs)
    | _,_ => none
  | _,_ => none
def zeroL (P : Program) (t : TypeId) : Option (List LV) :=
  match (P.info? t).bind (·.zero) with
  | some z => cLs P (leaves P 20 t) z.cells.toList
  | none => none
def isAggB (P : Program) (t : TypeId) : Bool :=
  match P.underlying t with
  | some (.struct _) => true
  | some (.array _ _) => true
  | _ => false

def plainTy (P : Program) (t : TypeId) (n : Nat) : Bool:=(P.underlying t).isSome && (isAggB P t || n == 1)
def size? (P : Program) (t : TypeId) : Option Nat:=(P.info? t).map (·.size)

def cXs (P : Program) : List TypeId→List Operand→Option (List X)
  | [],[] => some []
  | t :: ts, x :: xs => match cX P t x, cXs P ts xs with
    | some a,some r => some (a :: r)
    | _,_ => none
  | _,_ => none

def placesOf (P : Program) : List Field→Option (List (Nat × Nat))
  | [] => some []
  | f :: fs => match size? P f.type, placesOf P fs with
    | some n,some r => some ((f.offset,n) :: r)
    | _,_ => none
def partOf (P : Program) (fs : List Field) (pl : List (Nat × Nat)) (i : Nat) (x : Operand) : Option (Nat × Nat × X) :=
  match fs[i]?,pl[i]? with
  | some f, some (off, n + 1) => match cX P f.type x with
    | some y => some (off,n+1,y)
    | none => none
  | _,_ => none
def partsOf (P : Program) (fs : List Field) (pl : List (Nat × Nat)) : List (Nat × Operand)→Option (List (Nat × Nat × X))
  | [] => some []
  | (i, x) :: ps => match partOf P fs pl i x, partsOf P fs pl ps with
    | some p,some r => some (p :: r)
    | _,_ => none
def apartsOf (P : Program) (e : TypeId) (n : Nat) : List (Nat × Operand)→Option (List (Nat × Nat × X))
  | [] => some []
  | (i, x) :: ps => match cX P e x, apartsOf P e n ps with
    | some p,some r => some ((i * n,n,p) :: r)
    | _,_ => none
def rowsFrom (P : Program) (e : TypeId) (k : Nat) : List (Nat × Operand)→Option (List X)
  | [] => some []
  | (i, x) :: ps => if i = k then match cX P e x, rowsFrom P e (k + 1) ps with
    | some p,some r => some (p :: r)
    | _,_ => none else none

def flatFs (P : Program) (k : TypeId→Option (List Lk)) : List Field→Nat→Option (List Lk)
  | [],_ => some []
  | f :: fs, off => match k f.type, flatFs P k fs (off + (size? P f.type).getD 0) with
    | some ks,some r => if f.name≠"_"∧f.offset=off∧size? P f.type=some ks.length∧(isAggB P f.type=false→ks.length=1)∧0 < ks.length then some (ks++r) else none
    | _,_ => none
def flatEq (P : Program) : Nat→TypeId→Option (List Lk)
  | 0,_ => none
  | n + 1, t => match P.underlying t with
    | some .bool => some [.b]
    | some (.int _) => some [.i]
    | some .string => some [.z]
    | some (.struct fs) => if P.stoodInHeld t then none else flatFs P (flatEq P n) fs.toList 0
    | _ => none

def cOX (P : Program) (t : TypeId) : Option Operand→Option (Option X)
  | none => some none
  | some x => (cX P t x).map some

def cBin (P : Program) (d : Nat) (op : BinOp) (t : TypeId) (x y : Operand) (yt : TypeId) : Option IOp :=
  match P.underlying t with
  | some (.struct _) =>
    if P.eqGuardType P.depth t then none else match op,flatEq P 10 t,cX P t x,cX P t y with
      | .eql,some ks,some a,some b => some (.eqs d false ks a b)
      | .neq,some ks,some a,some b => some (.eqs d true ks a b)
      | _,_,_,_ => none
  | some (.int _) => match cX P t x, cX P yt y with
    | some a,some b => some (.bin d false op a b)
    | _,_ => none
  | some .bool => match cX P t x, cX P t y with
    | some a,some b => some (.bin d true op a b)
    | _,_ => none
  | some .string => match cX P t x, cX P t y with
    | some a,some b => some (.bin d false op a b)
    | _,_ => none
  | _ => none

def sliceOrString (P : Program) (t : TypeId) : Bool :=
  match P.underlying t with
  | some (.slice _) => true
  | some .string => true
  | _ => false

def intTy (P : Program) (t : TypeId) : Bool :=
  match P.underlying t with
  | some (.int _) => true
  | _ => false
def zeroOk (P : Program) (t : TypeId) : Bool :=
  match (P.info? t).bind (·.zero) with
  | some (.agg _) => isAggB P t
  | some _ => !isAggB P t
  | none => false
def isNilC (P : Program) (t : TypeId) : Operand→Option Bool
  | .const (.slice none 0 0) => match P.underlying t with
    | some (.slice _) => some false
    | _ => none
  | .const (.pointer none) => match P.underlying t with
    | some (.pointer _) => some true
    | _ => none
  | _ => none

def cCall (P : Program) (d : Nat) (ty : TypeId) (c : Call) : Option IOp :=
  match c.callee,c.args.toList,c.argTypes.toList with
  | .builtin .len, [x], [t] => match P.underlying t, cX P t x with
    | some (.slice _),some a => some (.len d false a)
    | some .string,some a => some (.len d true a)
    | some (.map _ _),some a => some (.mlen d a)
    | _,_ => none
  | .builtin .cap, [x], [t] => match P.underlying t, cX P t x with
    | some (.slice _),some a => some (.cap d a)
    | _,_ => none
  | .builtin .append, [x, y], [t, u] => match P.underlying t with
    | some (.slice e) => match P.info? e, zeroT P e, cX P t x, cX P u y with
      | some i,some z,some a,some b => if z.length=i.size∧0 < i.bytes∧0 < i.size then (if sliceOrString P u=true then some (.append d a b e i.size i.bytes) else if intTy P u=true then some (.appz d a b e z i.bytes) else none) else none
      | _,_,_,_ => none
    | _ => none
  | .builtin .copy, [x, y], [t, u] => match P.underlying t with
    | some (.slice e) => match size? P e, cX P t x, cX P u y with
      | some n,some a,some b => some (.copy d a b n)
      | _,_,_ => none
    | _ => none
  | .builtin .min,xs,ts => (cXs P ts xs).map fun ys => .mn d ys
  | .builtin .max,xs,ts => (cXs P ts xs).map fun ys => .mx d ys
  | .value f, xs, ts => match cX P ty f, cXs P ts xs with
    | some g,some ys => some (.call d g ys)
    | _,_ => none
  | _,_,_ => none

def zeroM (P : Program) (t : TypeId) : Bool :=
  match (P.info? t).bind (·.zero) with
  | some (.map none) => true
  | some (.pointer none) => true
  | _ => false
def cNilBin (P : Program) (d : Nat) (op : BinOp) (t : TypeId) (ptr : Bool) (x : Operand) : Option IOp :=
  match op,cX P t x with
  | .eql,some a => some (.isnil d false ptr a)
  | .neq,some a => some (.isnil d true ptr a)
  | _,_ => none
def cOp (P : Program) (d : Nat) (ty : TypeId) : Op→Option IOp
  | .move x => (cX P ty x).map fun a => .mv d a
  | .assign x => (cX P ty x).map fun a => .mv d a
  | .pick c a b => match cX P ty c, cX P ty a, cX P ty b with
    | some c,some a,some b => some (.pick d c a b)
    | _,_,_ => none
  | .alloc e => match zeroT P e with
    | some zs => some (.alloc d (liftV zs))
    | none => if zeroM P e then some (.alloc d [.u]) else none
  | .box e x => match size? P e, cX P e x with
    | some (n+1),some a => some (.box d a (n+1))
    | _,_ => none
  | .build t parts => match P.underlying t, zeroL P t with
    | some (.struct fs), some zs => match placesOf P fs.toList with
      | some pl => match partsOf P fs.toList pl parts.toList with
        | some ps => some (.build d zs ps)
        | none => none
      | none => none
    | some (.array _ e), some zs => match size? P e with
      | some (n + 1) => match apartsOf P e (n + 1) parts.toList with
        | some ps => some (.build d zs ps)
        | none => none
      | _ => none
    | _,_ => none
  | .buildSlice t len parts => match P.underlying t with
    | some (.slice e) => match size? P e, rowsFrom P e 0 parts.toList, zeroT P e with
      | some n,some rs,some _ => if rs.length=len∧len * n≤16777216∧0 < n then some (.bslice d e n rs) else none
      | _,_,_ => none
    | _ => none
  | .load t a => match size? P t, cX P ty a with
    | some n,some x => if plainTy P t n then some (.load d x n (isAggB P t)) else none
    | _,_ => none
  | .nilCheck x => (cX P ty x).map fun a => .nchk d a
  | .binOp op t x y yt => match isNilC P t y with
    | some ptr => cNilBin P d op t ptr x
    | none => cBin P d op t x y yt
  | .unOp op t x => (cX P t x).map fun a => .un d op a
  | .convert src dst x => match P.underlying src, P.underlying dst, cX P src x with
    | some (.int _),some (.int k),some a => some (.conv d k a)
    | some (.slice e), some .string, some a => match P.underlying e with
      | some (.int .u8) => some (.b2s d a)
      | _ => none
    | some .string, some (.slice e), some a => match P.underlying e with
      | some (.int .u8) => some (.s2b d a)
      | _ => none
    | some (.slice e), some (.slice _), some a => match P.underlying e with
      | some (.int .u8) => if src=dst then some (.cvb d a) else none
      | _ => none
    | _,_,_ => none
  | .slice t x lo hi mx => match P.underlying t with
    | some (.slice e) => match size? P e, cX P t x, cOX P t lo, cOX P t hi, cOX P t mx with
      | some n,some a,some l,some h,some m => if mx.isSome && hi.isNone then none else some (.slice d a l h m e n)
      | _,_,_,_,_ => none
    | some .string => match cX P t x, cOX P t lo, cOX P t hi, mx with
      | some a,some l,some h,none => some (.ssl d a l h)
      | _,_,_,_ => none
    | _ => none
  | .fieldAddr t x f => match P.underlying t, cX P ty x with
    | some (.struct fs), some a => match fs[f]? with
      | some g => match size? P g.type with
        | some (_+1) => some (.faddr d a g.offset)
        | _ => none
      | none => none
    | _,_ => none
  | .field t x f => match P.underlying t, cX P t x with
    | some (.struct fs), some a => match fs[f]? with
      | some g => match size? P g.type with
        | some n => if plainTy P g.type n then some (.fld d a g.offset n (isAggB P g.type)) else none
        | none => none
      | none => none
    | _,_ => none
  | .indexAddr t x i => match P.underlying t with
    | some (.slice e) => match size? P e, cX P t x, cX P t i with
      | some n,some a,some b => some (.iaddr d a b n)
      | _,_,_ => none
    | some (.array k e) => match size? P e, cX P t x, cX P t i with
      | some n,some a,some b => some (.aaddr d a b k n)
      | _,_,_ => none
    | _ => none
  | .index t x i => match P.underlying t with
    | some (.array k e) => match size? P e, cX P t x, cX P t i with
      | some n,some a,some b => if plainTy P e n then some (.ixa d a b k n (isAggB P e)) else none
      | _,_,_ => none
    | some .string => match cX P t x, cX P t i with
      | some a,some b => some (.ixs d a b)
      | _,_ => none
    | _ => none
  | .extract x i => (cX P ty x).map fun a => .ext d a i
  | .makeFunc (.func f) first caps => if first.isEmpty then (cXs P (List.replicate caps.size ty) caps.toList).map fun cs => .mkfn d f cs else none
  | .makeSlice t l c => match P.underlying t with
    | some (.slice e) => match P.info? e, zeroT P e, cX P ty l, cX P ty c with
      | some i,some z,some a,some b => if z.length=i.size∧0 < i.bytes∧0 < i.size then some (.mkslice d a b e z i.bytes) else none
      | _,_,_,_ => none
    | _ => none
  | .call c => cCall P d ty c
  | .makeMap t none => match P.underlying t with
    | some (.map k e) => some (.mkmap d (isAggB P k) (isAggB P e))
    | _ => none
  | .lookup t x i cok => match P.underlying t with
    | some (.map k e) => match flatEq P 10 k, zeroT P e, cX P t x, cX P k i with
      | some ks,some zs,some a,some b => if plainTy P e zs.length && zeroOk P e then some (.mget d ks (isAggB P k) (isAggB P e) zs cok a b) else none
      | _,_,_,_ => none
    | _ => none
  | _ => none

def cDel (P : Program) (c : Call) : Option IOp :=
  match c.callee,c.args.toList,c.argTypes.toList with
  | .builtin .delete, [x, y], [t, _] => match P.underlying t with
    | some (.map k _) => match flatEq P 10 k, cX P t x, cX P k y with
      | some ks,some a,some b => some (.mdel ks (isAggB P k) a b)
      | _,_,_ => none
    | _ => none
  | _,_,_ => none
structure Sl where
  n : Nat
  pr : List Nat
  io : List Nat
  rg : Bool
def Sl.may (s : Sl) (d : Nat) : Bool:=decide (d < s.n) && !s.pr.contains d
def toIn (io : List Nat) (d : Nat) : IOp→IOp
  | .call a f args => match io.find? (fun e => e % 1000000 == d) with
    | some e => .icall a (e / 1000000) f args
    | none => .call a f args
  | o => o
def cOpd (P : Program) (n : Sl) (o : Oper) : Option IOp :=
  match o.dst with
  | some d => if n.may d=true then (cOp P d o.type o.op).map (toIn n.io d) else none
  | none => match o.op with
    | .store t a x => match size? P t, cX P o.type a, cX P t x with
      | some (m+1),some p,some v => if p.rs.any (fun i => n.io.contains (500000000+i)) then some (.sst p v (m+1)) else some (.store p v (m+1))
      | _,_,_ => none
    | .mapUpdate t m k v => match P.underlying t with
      | some (.map kt e) => match flatEq P 10 kt, size? P e, cX P t m, cX P kt k, cX P e v with
        | some ks,some n,some a,some b,some c => if plainTy P e n then some (.mupd ks (isAggB P kt) (isAggB P e) n a b c) else none
        | _,_,_,_,_ => none
      | _ => none
    | .call c => cDel P c
    | _ => none

def dstOf (ops : Array Oper) (n j : Nat) : Option Nat :=
  match ops[j]? with
  | some p => match p.dst with
    | some d => if d < n then some d else none
    | none => none
  | none => none
def cGuard (ops : Array Oper) (n : Nat) : Option (Nat × Bool)→Option (Option (Nat × Bool))
  | none => some none
  | some (j, b) => match dstOf ops n j with
    | some d => some (some (d,b))
    | none => none

def cOper (P : Program) (n : Sl) (ops : Array Oper) (o : Oper) : IOper :=
  match cOpd P n o,cGuard ops n.n o.guard with
  | some i,some g => ⟨i,g⟩
  | _,_ => ⟨.bad,none⟩

def cOpers (P : Program) (n : Sl) (ops : Array Oper) : List Oper→List IOper
  | [] => []
  | o :: os => cOper P n ops o :: cOpers P n ops os

def look (i : Nat) : List (Nat × GC)→GC
  | [] => ⟨[],[(0,0),(0,0)]⟩
  | (a,g) :: r => if a=i then g else look i r

/-! ### regions whose order is drawn -/
def waits (o : Oper) : List Nat:=(o.after.toList.filter (Region.binds .any)).map (·.on)
def bitsOk (ws : List Nat) (ord : List Nat) (s : Nat) : Nat→Bool
  | 0 => true
  | n+1 => (!s.testBit n || ws.contains n || ws.any fun e => (ord.getD e 0).testBit n) && bitsOk ws ord s n
def IOp.inn : IOp→Bool
  | .icall _ k _ _ => k != 0
  | .sst _ _ _ => true
  | _ => false
def free2 (a b : IOper) : Bool:=!a.op.inn && match a.op.dst with
  | some d => !b.reads.contains d && b.op.dst != some d
  | none => true
def freeAll (s : Nat) (o : IOper) : Nat→List IOper→Bool
  | _,[] => true
  | i,p :: ps => (s.testBit i || (free2 p o && free2 o p)) && freeAll s o (i+1) ps
def drawOk (ord : List Nat) : Nat→List IOper→List Oper→List IOper→Bool
  | _,_,[],[] => true
  | k,ahead,o :: os,i :: is => ((waits o).all fun e => decide (e < k)) && decide (ord.getD k 0 < 2 ^ k) && bitsOk (waits o) ord (ord.getD k 0) k && freeAll (ord.getD k 0) i 0 ahead && drawOk ord (k+1) (ahead++[i]) os is
  | _,_,_,_ => false

def allGo (ops : Array Oper) : Nat→Array Bool→List Nat→List (List Nat)
  | 0,_,acc => [acc.reverse]
  | f+1,listed,acc => allRs ((List.range ops.size).filter fun i => !listed.getD i true && ((ops[i]?).map (·.after.all fun e => !Region.binds .any e || listed.getD e.on false)).getD false) acc fun i => allGo ops f (listed.setIfInBounds i true) (i :: acc)
where
  allRs (rs : List Nat) (acc : List Nat) (k : Nat→List (List Nat)) : List (List Nat):=if rs.isEmpty then [acc.reverse] else rs.flatMap k
def allOrd (ops : Array Oper) : List (List Nat):=allGo ops ops.size (Array.replicate ops.size false) []
def hasInn (ios : List IOper) : Bool:=ios.any fun o => o.op.inn
def drawC (g : GC) (ops : Array Oper) (ios : List IOper) : ICode :=
  if drawOk (Region.before ops).toList 0 [] ops.toList ios then .draw ios (Region.before ops).toList g else if hasInn ios then .draws ios (allOrd ops) g else .bad

def nodup : List Nat→Bool
  | [] => true
  | a :: r => !r.contains a && nodup r
def GC.ok (g : GC) : Bool:=nodup (g.ids.map (·.1)) && nodup (g.ids.map (·.2))
def orBad (b : Bool) (c : ICode) : ICode:=if b then c else .bad

/-! ### ranges over functions -/
def yld3 (P : Program) (n : Sl) (ops : Array Oper) (g : GC) (o1 o2 o3 : Oper) : Option ICode :=
  match o1.dst,o1.op,o1.guard,o3.dst,o3.op,o3.guard with
  | some a, .move (.tmp 0), none, some d, .call c, none => match c.callee, c.args.toList, cX P 0 (c.args.getD 0 (.tmp 0)) with
    | .value (.tmp b),[_],some x => if b == a && n.may a && n.may d && n.pr.contains 0 && o2.guard.isNone && o2.dst != some 0 then some (.yld d a (cOper P ⟨n.n,a :: n.pr,[],false⟩ ops o2) x g) else none
    | _,_,_ => none
  | _,_,_,_,_,_ => none
def yldOf (P : Program) (n : Sl) (ops : Array Oper) (g : GC) : Option ICode :=
  match ops.toList with
  | [o1,o2,o3] => yld3 P n ops g o1 o2 o3
  | _ => none
def ksOf (g : GC) : List (Nat × Nat):=(1000004,1000004) :: g.ids.map fun q => (q.2,q.2)
def addK (ks : List (Nat × Nat)) (g : GC) : GC:=⟨g.slots,ks++g.ids.filter fun q => !ks.any fun k => k.1 == q.1 || k.2 == q.2⟩
def addKs (ks : List (Nat × Nat)) : List (Nat × GC)→List (Nat × GC)
  | [] => []
  | (i,g) :: r => (i,addK ks g) :: addKs ks r
def rngOk (g : GC) : Bool:=g.ok && g.ids.all fun q => decide (q.2 < 1000000)
def Sl.inner (n : Sl) : Sl:=⟨n.n,n.pr,n.io,false⟩
def orReg (c : ICode) : Option ICode→ICode
  | some y => y
  | none => c

def cCode (P : Program) (n : Sl) (A B : List (Nat × GC)) : Code→ICode
  | .skip => .skip
  | .region id ops false => orBad (look id A).ok (orReg (.region (cOpers P n ops ops.toList) (look id A)) (yldOf P n ops (look id A)))
  | .region id ops true => orBad (look id A).ok (drawC (look id A) ops (cOpers P n ops ops.toList))
  | .seq a b => .seq (cCode P n A B a) (cCode P n A B b)
  | .cond c a b => match cX P 0 c with
    | some x => .cond x (cCode P n A B a) (cCode P n A B b)
    | none => .bad
  | .block id b => .block id (cCode P n A B b)
  | .loop b => .loop (cCode P n A B b)
  | .exit id => orBad (look id B).ok (.seq (.gc (look id B)) (.exit id))
  | .ret => .ret
  | .scope b => cCode P n A B b
  | .label _ => .skip
  | .rangeFunc x ps ac bd => match cX P 0 x, ps.toList with
    | some y,[p] => orBad (n.rg && rngOk (look 1000001 A) && n.may p) (.rng y p (cCode P n.inner (addKs (ksOf (look 1000001 A)) A) (addKs (ksOf (look 1000001 A)) B) ac) (cCode P n.inner (addKs (ksOf (look 1000001 A)) A) (addKs (ksOf (look 1000001 A)) B) bd) (look 1000001 A) (ksOf (look 1000001 A)))
    | _,_ => .bad
  | _ => .bad

def cRes (P : Program) : ResultVar→RV
  | .tmp t => .tmp t
  | .cell t ty => .cell t (P.cellsOf ty) (isAggB P ty)

def resOk (P : Program) : ResultVar→Bool
  | .tmp _ => true
  | .cell _ ty => match size? P ty with
    | some n => plainTy P ty n && n == P.cellsOf ty
    | none => false

def cFn (P : Program) (A B : List (Nat × GC)) (fn : Func) : IFn :=
  { body:=match fn.body with | some c => orBad (fn.results.toList.all (resOk P)) (cCode P ⟨fn.ntmps,(look 1000003 A).slots,(look 1000000 A).slots,true⟩ A B c) | none => .bad,res:=fn.results.toList.map (cRes P) }

end Go.Proofs.Ytcecojdeljbjoaa.Sx
namespace Go.Proofs.Ytcecojdeljbjoaa.Sx
open Go Go.RowKit

/-! ### trees -/
section
variable (w : World) (ok : Nat→Prop)
mutual
def TRep : TV→Value→Prop
  | .int k n,v => v=.int k n
  | .bool b,v => v=.bool b
  | .str s,v => v=.string s
  | .nilfn,v => v=.nilFunc
  | .unk,v => v.oneCell'=true∧v.cells=#[v]
  | .sl fl sz rows,v => ∃ a len cap,v=.slice a len cap∧len=rows.length∧len≤cap∧cap≤maxLen∧(∀ e,fl=.tight e→cap=len)∧(rows=[]∨∃ b o,a=some ⟨b,o,none⟩∧ok b∧RowsRep sz b rows o)
  | .pc cells,v => ∃ b o,v=.pointer (some ⟨b,o,none⟩)∧ok b∧CellsRep b cells o
  | .fn f caps,v => ∃ cs,v=.func (.func f) #[] cs∧ValsRep false caps cs.toList
  | .agg cells,v => ∃ cs,v=.agg cs∧ValsRep true cells cs.toList
  | .tup vs,v => ∃ cs,v=.tuple cs∧ValsRep false vs cs.toList
def RowsRep (sz b : Nat) : List (List TV)→Nat→Prop
  | [],_ => True
  | r :: rs,o => r.length=sz∧CellsRep b r o∧RowsRep sz b rs (o+sz)
def CellsRep (b : Nat) : List TV→Nat→Prop
  | [],_ => True
  | t :: ts,o => (∃ v,w.cell? ⟨b,o,none⟩=some v∧v.oneCell'=true∧TRep t v)∧CellsRep b ts (o+1)
def ValsRep (one : Bool) : List TV→List Value→Prop
  | [],vs => vs=[]
  | t :: ts,vs => ∃ v r,vs=v :: r∧(one=true→v.oneCell'=true)∧TRep t v∧ValsRep one ts r
end
end

def Same (w w' : World) (ok ok' : Nat→Prop) : Prop:=∀ b,ok b→w'.heap[b]?=w.heap[b]?∧ok' b
theorem Same.refl (w : World) (ok : Nat→Prop) : Same w w ok ok:=fun _ h => ⟨rfl,h⟩
theorem cell_same {w w' : World} {b o : Nat} (h : w'.heap[b]?=w.heap[b]?) : w'.cell? ⟨b,o,none⟩=w.cell? ⟨b,o,none⟩:=by simp [World.cell?,h]
mutual
theorem TRep.to {w w' : World} {ok ok' : Nat→Prop} (hs : Same w w' ok ok') : ∀ {t : TV} {v : Value},TRep w ok t v→TRep w' ok' t v
  | .int k n,v,h => by simpa only [TRep] using h
  | .bool b,v,h => by simpa only [TRep] using h
  | .str s,v,h => by simpa only [TRep] using h
  | .nilfn,v,h => by simpa only [TRep] using h
  | .unk,v,h => by simpa only [TRep] using h
  | .sl fl sz rows, v, h => by
    simp only [TRep] at h ⊢
    obtain ⟨a,len,cap,h1,h2,h3,h3',h4,h5⟩:=h
    refine ⟨a,len,cap,h1,h2,h3,h3',h4,?_⟩
    rcases h5 with h5 | ⟨b,o,h5,h6,h7⟩
    · exact .inl h5
    · exact .inr ⟨b,o,h5,(hs b h6).2,RowsRep.to hs h6 h7⟩
  | .pc cells, v, h => by
    simp only [TRep] at h ⊢
    obtain ⟨b,o,h1,h2,h3⟩:=h
    exact ⟨b,o,h1,(hs b h2).2,CellsRep.to hs h2 h3⟩
  | .fn f caps, v, h => by
    simp only [TRep] at h ⊢
    obtain ⟨cs,h1,h2⟩:=h
    exact ⟨cs,h1,ValsRep.to hs h2⟩
  | .agg cells, v, h => by
    simp only [TRep] at h ⊢
    obtain ⟨cs,h1,h2⟩:=h
    exact ⟨cs,h1,ValsRep.to hs h2⟩
  | .tup vs, v, h => by
    simp only [TRep] at h ⊢
    obtain ⟨cs,h1,h2⟩:=h
    exact ⟨cs,h1,ValsRep.to hs h2⟩
theorem RowsRep.to {w w' : World} {ok ok' : Nat→Prop} (hs : Same w w' ok ok') {sz b : Nat} (hb : ok b) : ∀ {rows : List (List TV)} {o : Nat},RowsRep w ok sz b rows o→RowsRep w' ok' sz b rows o
  | [],o,h => by simp only [RowsRep]
  | r :: rs, o, h => by
    simp only [RowsRep] at h ⊢
    exact ⟨h.1,CellsRep.to hs hb h.2.1,RowsRep.to hs hb h.2.2⟩
theorem CellsRep.to {w w' : World} {ok ok' : Nat→Prop} (hs : Same w w' ok ok') {b : Nat} (hb : ok b) : ∀ {cells : List TV} {o : Nat},CellsRep w ok b cells o→CellsRep w' ok' b cells o
  | [],o,h => by simp only [CellsRep]
  | t :: ts, o, h => by
    simp only [CellsRep] at h ⊢
    obtain ⟨⟨v,h1,h2,h3⟩,h4⟩:=h
    exact ⟨⟨v,(cell_same (hs b hb).1).trans h1,h2,TRep.to hs h3⟩,CellsRep.to hs hb h4⟩
theorem ValsRep.to {w w' : World} {ok ok' : Nat→Prop} (hs : Same w w' ok ok') {one : Bool} : ∀ {ts : List TV} {vs : List Value},ValsRep w ok one ts vs→ValsRep w' ok' one ts vs
  | [],vs,h => by simpa only [ValsRep] using h
  | t :: ts, vs, h => by
    simp only [ValsRep] at h ⊢
    obtain ⟨v,r,h1,h2,h3,h4⟩:=h
    exact ⟨v,r,h1,h2,TRep.to hs h3,ValsRep.to hs h4⟩
end
theorem CellsRep.at {w w' : World} {ok ok' : Nat→Prop} (hs : Same w w' ok ok') {b : Nat} (hb : w'.heap[b]?=w.heap[b]?) : ∀ {cells : List TV} {o : Nat},CellsRep w ok b cells o→CellsRep w' ok' b cells o
  | [],o,h => by simp only [CellsRep]
  | t :: ts, o, h => by
    simp only [CellsRep] at h ⊢
    obtain ⟨⟨v,h1,h2,h3⟩,h4⟩:=h
    exact ⟨⟨v,(cell_same hb).trans h1,h2,h3.to hs⟩,CellsRep.at hs hb h4⟩
theorem RowsRep.at {w w' : World} {ok ok' : Nat→Prop} (hs : Same w w' ok ok') {sz b : Nat} (hb : w'.heap[b]?=w.heap[b]?) : ∀ {rows : List (List TV)} {o : Nat},RowsRep w ok sz b rows o→RowsRep w' ok' sz b rows o
  | [],o,h => by simp only [RowsRep]
  | r :: rs, o, h => by
    simp only [RowsRep] at h ⊢
    exact ⟨h.1,CellsRep.at hs hb h.2.1,RowsRep.at hs hb h.2.2⟩

/-! ### parts of rows and cells -/
theorem CellsRep.get {w : World} {ok : Nat→Prop} {b : Nat} : ∀ {cells : List TV} {o : Nat},CellsRep w ok b cells o→∀ (j : Nat) (t : TV),cells[j]?=some t →
    ∃ v,w.cell? ⟨b,o+j,none⟩=some v∧v.oneCell'=true∧TRep w ok t v
  | [],o,_,j,t,hj => by simp at hj
  | c :: cs, o, h, 0, t, hj => by
    simp only [CellsRep] at h
    simp only [List.getElem?_cons_zero,Option.some.injEq] at hj
    subst hj
    exact h.1
  | c :: cs, o, h, j + 1, t, hj => by
    simp only [CellsRep] at h
    have:=CellsRep.get h.2 j t (by simpa using hj)
    rwa [show o+(j+1)=o+1+j by omega]
theorem CellsRep.of {w : World} {ok : Nat→Prop} {b : Nat} : ∀ {cells : List TV} {o : Nat},(∀ (j : Nat) (t : TV),cells[j]?=some t →
    ∃ v,w.cell? ⟨b,o+j,none⟩=some v∧v.oneCell'=true∧TRep w ok t v)→CellsRep w ok b cells o
  | [],o,_ => by simp only [CellsRep]
  | c :: cs, o, h => by
    simp only [CellsRep]
    refine ⟨by simpa using h 0 c (by simp),CellsRep.of fun j t hj => ?_⟩
    have:=h (j+1) t (by simpa using hj)
    rwa [show o+(j+1)=o+1+j by omega] at this
theorem CellsRep.drop {w : World} {ok : Nat→Prop} {b : Nat} {cells : List TV} {o : Nat} (h : CellsRep w ok b cells o) (k : Nat) : CellsRep w ok b (cells.drop k) (o+k) :=
  CellsRep.of fun j t hj => by
    have:=h.get (k+j) t (by simpa [List.getElem?_drop] using hj)
    rwa [show o+(k+j)=o+k+j by omega] at this
theorem CellsRep.take {w : World} {ok : Nat→Prop} {b : Nat} {cells : List TV} {o : Nat} (h : CellsRep w ok b cells o) (k : Nat) : CellsRep w ok b (cells.take k) o :=
  CellsRep.of fun j t hj => by
    rw [List.getElem?_take] at hj
    split at hj
    · exact h.get j t hj
    · cases hj

theorem RowsRep.len {w : World} {ok : Nat→Prop} {sz b : Nat} : ∀ {rows : List (List TV)} {o : Nat},RowsRep w ok sz b rows o→∀ r∈rows,r.length=sz
  | [],_,_,r,hr => by simp at hr
  | x :: xs, o, h, r, hr => by
    simp only [RowsRep] at h
    rcases List.mem_cons.1 hr with rfl | hr
    · exact h.1
    · exact RowsRep.len h.2.2 r hr
theorem RowsRep.get {w : World} {ok : Nat→Prop} {sz b : Nat} : ∀ {rows : List (List TV)} {o : Nat},RowsRep w ok sz b rows o→∀ (i : Nat) (r : List TV),rows[i]?=some r→r.length=sz∧CellsRep w ok b r (o+i * sz)
  | [],_,_,i,r,hr => by simp at hr
  | x :: xs, o, h, 0, r, hr => by
    simp only [RowsRep] at h
    simp only [List.getElem?_cons_zero,Option.some.injEq] at hr
    subst hr
    simpa using ⟨h.1,h.2.1⟩
  | x :: xs, o, h, i + 1, r, hr => by
    simp only [RowsRep] at h
    have:=RowsRep.get h.2.2 i r (by simpa using hr)
    rwa [show o+(i+1) * sz=o+sz+i * sz by rw [Nat.add_mul]; omega]
theorem RowsRep.of {w : World} {ok : Nat→Prop} {sz b : Nat} : ∀ {rows : List (List TV)} {o : Nat},(∀ (i : Nat) (r : List TV),rows[i]?=some r→r.length=sz∧CellsRep w ok b r (o+i * sz))→RowsRep w ok sz b rows o
  | [],_,_ => by simp only [RowsRep]
  | x :: xs, o, h => by
    simp only [RowsRep]
    have h0:=h 0 x (by simp)
    refine ⟨h0.1,by simpa using h0.2,RowsRep.of fun i r hr => ?_⟩
    have:=h (i+1) r (by simpa using hr)
    rwa [show o+(i+1) * sz=o+sz+i * sz by rw [Nat.add_mul]; omega] at this
theorem RowsRep.drop {w : World} {ok : Nat→Prop} {sz b : Nat} {rows : List (List TV)} {o : Nat} (h : RowsRep w ok sz b rows o) (k : Nat) : RowsRep w ok sz b (rows.drop k) (o+k * sz) :=
  RowsRep.of fun i r hr => by
    have:=h.get (k+i) r (by simpa [List.getElem?_drop] using hr)
    rwa [show o+(k+i) * sz=o+k * sz+i * sz by rw [Nat.add_mul]; omega] at this
theorem RowsRep.take {w : World} {ok : Nat→Prop} {sz b : Nat} {rows : List (List TV)} {o : Nat} (h : RowsRep w ok sz b rows o) (k : Nat) : RowsRep w ok sz b (rows.take k) o :=
  RowsRep.of fun i r hr => by
    rw [List.getElem?_take] at hr
    split at hr
    · exact h.get i r hr
    · cases hr

theorem RowsRep.flat {w : World} {ok : Nat→Prop} {sz b : Nat} {rows : List (List TV)} {o : Nat} (h : RowsRep w ok sz b rows o) :
    ∃ vs : List Value,vs.length=rows.length * sz∧(∀ (j : Nat) (v : Value),vs[j]?=some v→w.cell? ⟨b,o+j,none⟩=some v)∧(∀ v∈vs,v.oneCell'=true) ∧
      (∀ (i : Nat) (r : List TV),rows[i]?=some r→∀ (j : Nat) (t : TV),r[j]?=some t→∃ v,vs[i * sz+j]?=some v∧TRep w ok t v):=by
  induction rows generalizing o with
  | nil => exact ⟨[],by simp,by simp,by simp,by simp⟩
  | cons r rs ih =>
    simp only [RowsRep] at h
    obtain ⟨hr,hc,hrs⟩:=h
    obtain ⟨vs,h1,h2,h3,h4⟩:=ih hrs
    have hcs : ∃ us : List Value,us.length=sz∧(∀ (j : Nat) (v : Value),us[j]?=some v→w.cell? ⟨b,o+j,none⟩=some v)∧(∀ v∈us,v.oneCell'=true) ∧
        (∀ (j : Nat) (t : TV),r[j]?=some t→∃ v,us[j]?=some v∧TRep w ok t v):=by
      subst hr
      clear h1 h2 h3 h4 ih hrs vs rs
      induction r generalizing o with
      | nil => exact ⟨[],by simp,by simp,by simp,by simp⟩
      | cons c cs ih =>
        simp only [CellsRep] at hc
        obtain ⟨⟨v,hv1,hv2,hv3⟩,hc⟩:=hc
        obtain ⟨us,h1,h2,h3,h4⟩:=ih hc
        refine ⟨v :: us,by simp [h1],?_,?_,?_⟩
        · intro j u hj
          cases j with
          | zero => simp only [List.getElem?_cons_zero,Option.some.injEq] at hj; subst hj; exact hv1
          | succ j => rw [show o+(j+1)=o+1+j by omega]; exact h2 j u (by simpa using hj)
        · intro u hu
          rcases List.mem_cons.1 hu with rfl | hu
          · exact hv2
          · exact h3 u hu
        · intro j t hj
          cases j with
          | zero => simp only [List.getElem?_cons_zero,Option.some.injEq] at hj; subst hj; exact ⟨v,by simp,hv3⟩
          | succ j => obtain ⟨u,hu,ht⟩:=h4 j t (by simpa using hj); exact ⟨u,by simpa using hu,ht⟩
    obtain ⟨us,g1,g2,g3,g4⟩:=hcs
    refine ⟨us++vs,by simp [g1,h1,Nat.add_mul]; omega,?_,?_,?_⟩
    · intro j v hj
      by_cases hlt : j < sz
      · exact g2 j v (by rwa [List.getElem?_append_left (by omega)] at hj)
      · rw [List.getElem?_append_right (by omega), g1] at hj
        have:=h2 (j - sz) v hj
        rwa [show o+sz+(j - sz)=o+j by omega] at this
    · intro v hv
      rcases List.mem_append.1 hv with hv | hv
      · exact g3 v hv
      · exact h3 v hv
    · intro i q hi j t hj
      cases i with
      | zero =>
        simp only [List.getElem?_cons_zero,Option.some.injEq] at hi
        subst hi
        obtain ⟨v,hv,ht⟩:=g4 j t hj
        have hlt:=(List.getElem?_eq_some_iff.1 hv).1
        exact ⟨v,by rw [show 0 * sz+j=j by omega,List.getElem?_append_left hlt]; exact hv,ht⟩
      | succ i =>
        obtain ⟨v,hv,ht⟩:=h4 i q (by simpa using hi) j t hj
        refine ⟨v,?_,ht⟩
        rw [List.getElem?_append_right (by rw [g1,Nat.add_mul]; omega),g1,show (i+1) * sz+j - sz=i * sz+j by rw [Nat.add_mul]; omega]
        exact hv

theorem ValsRep.length {w : World} {ok : Nat→Prop} {one : Bool} : ∀ {ts : List TV} {vs : List Value},ValsRep w ok one ts vs→vs.length=ts.length
  | [],vs,h => by simp only [ValsRep] at h; simp [h]
  | t :: ts, vs, h => by
    simp only [ValsRep] at h
    obtain ⟨v,r,rfl,_,_,h4⟩:=h
    simp [ValsRep.length h4]
theorem ValsRep.get {w : World} {ok : Nat→Prop} {one : Bool} : ∀ {ts : List TV} {vs : List Value},ValsRep w ok one ts vs→∀ (i : Nat) (t : TV),ts[i]?=some t →
    ∃ v,vs[i]?=some v∧(one=true→v.oneCell'=true)∧TRep w ok t v
  | [],vs,h,i,t,hi => by simp at hi
  | x :: xs, vs, h, 0, t, hi => by
    simp only [ValsRep] at h
    obtain ⟨v,r,rfl,h2,h3,h4⟩:=h
    simp only [List.getElem?_cons_zero,Option.some.injEq] at hi
    subst hi
    exact ⟨v,by simp,h2,h3⟩
  | x :: xs, vs, h, i + 1, t, hi => by
    simp only [ValsRep] at h
    obtain ⟨v,r,rfl,h2,h3,h4⟩:=h
    simpa using ValsRep.get h4 i t (by simpa using hi)
theorem ValsRep.of {w : World} {ok : Nat→Prop} {one : Bool} : ∀ {ts : List TV} {vs : List Value},vs.length=ts.length→(∀ (i : Nat) (t : TV),ts[i]?=some t →
    ∃ v,vs[i]?=some v∧(one=true→v.oneCell'=true)∧TRep w ok t v)→ValsRep w ok one ts vs
  | [],vs,hl,_ => by simp only [ValsRep]; exact List.eq_nil_of_length_eq_zero (by simpa using hl)
  | x :: xs,[],hl,_ => by simp at hl
  | x :: xs, v :: vs, hl, h => by
    simp only [ValsRep]
    obtain ⟨u,hu,h2,h3⟩:=h 0 x (by simp)
    simp only [List.getElem?_cons_zero,Option.some.injEq] at hu
    subst hu
    exact ⟨v,vs,rfl,h2,h3,ValsRep.of (by simpa using hl) fun i t hi => by simpa using h (i+1) t (by simpa using hi)⟩
theorem ValsRep.weak {w : World} {ok : Nat→Prop} {one : Bool} {ts : List TV} {vs : List Value} (h : ValsRep w ok one ts vs) : ValsRep w ok false ts vs :=
  ValsRep.of h.length fun i t hi => by
    obtain ⟨v,h1,_,h3⟩:=h.get i t hi
    exact ⟨v,h1,by simp,h3⟩

/-! ### names -/
abbrev Rho:=Nat→Option (Nat × Nat)
def PRep (ρ : Rho) (id off : Nat) (x : Value) : Option Ob→Prop
  | some (.var _ _) => ∃ b K,ρ id=some (b,K)∧x=.pointer (some ⟨b,off,none⟩)
  | some .dead => ∃ a,x=.pointer (some a)
  | _ => False
def ERep (ρ : Rho) (id row off : Nat) (x : Value) : Option Ob→Prop
  | some (.arr _ _ sz _) => ∃ b K,ρ id=some (b,K)∧x=.pointer (some ⟨b,row * sz+off,none⟩)
  | some .dead => ∃ a,x=.pointer (some a)
  | _ => False
def SRep (ρ : Rho) (id off len : Nat) (x : Value) : Option Ob→Prop
  | some (.arr _ _ sz rows) => ∃ a cap,x=.slice a len cap∧off+len≤rows.length∧len≤cap∧cap≤maxLen ∧
      ((ρ id=none∧cap=0∧off=0)∨∃ b K,ρ id=some (b,K)∧off+cap=K∧(a=some ⟨b,off * sz,none⟩∨(cap=0∧0 < off)))
  | some .dead => ∃ a cap,x=.slice a len cap∧len≤cap∧cap≤maxLen∧(len=0∨a.isSome=true)
  | some (.var _ _) => off=0∧∃ b cap,ρ id=some (b,cap)∧x=.slice (some ⟨b,0,none⟩) len cap∧len≤cap∧cap≤maxLen
  | _ => False
def MRep (ρ : Rho) (id : Nat) (x : Value) : Option Ob→Prop
  | some (.map _ _ _ _) => ∃ b K,ρ id=some (b,K)∧x=.map (some b)
  | some .dead => ∃ b,x=.map (some b)
  | _ => False
section
variable (w : World) (ok : Nat→Prop) (ρ : Rho) (h : Hp)
mutual
def LRep : LV→Value→Prop
  | .u,_ => True
  | .v t,x => TRep w ok t x
  | .p id off,x => PRep ρ id off x (h id)
  | .pe id row off,x => ERep ρ id row off x (h id)
  | .s id off len,x => SRep ρ id off len x (h id)
  | .m id,x => MRep ρ id x (h id)
  | .agg cs,x => ∃ vs,x=.agg vs∧LReps true cs vs.toList
  | .tup cs,x => ∃ vs,x=.tuple vs∧LReps false cs vs.toList
  | .fn f cs,x => ∃ vs,x=.func (.func f) #[] vs∧LReps false cs vs.toList
def LReps (one : Bool) : List LV→List Value→Prop
  | [],vs => vs=[]
  | l :: ls,vs => ∃ v r,vs=v :: r∧(one=true→v.oneCell'=true)∧LRep l v∧LReps one ls r
end
end

def Later (ρ ρ' : Rho) (h h' : Hp) : Prop:=∀ id o,h id=some o→h' id=some .dead∨(ρ' id=ρ id ∧
  ((∃ f cs f' cs',o=.var f cs∧h' id=some (.var f' cs'))∨(∃ f e sz rows f' e' rows',o=.arr f e sz rows∧h' id=some (.arr f' e' sz rows')∧rows.length≤rows'.length)∨(o=.dead∧h' id=some .dead)∨(∃ f k v es f' es',o=.map f k v es∧h' id=some (.map f' k v es'))))
theorem Later.refl (ρ : Rho) (h : Hp) : Later ρ ρ h h:=fun id o ho => by
  cases o with
  | var f cs => exact .inr ⟨rfl,.inl ⟨f,cs,f,cs,rfl,ho⟩⟩
  | arr f e sz rows => exact .inr ⟨rfl,.inr (.inl ⟨f,e,sz,rows,f,e,rows,rfl,ho,Nat.le_refl _⟩)⟩
  | dead => exact .inl ho
  | map f k v es => exact .inr ⟨rfl,.inr (.inr (.inr ⟨f,k,v,es,f,es,rfl,ho⟩))⟩

theorem MRep.shape {ρ : Rho} {id : Nat} {x : Value} {o : Option Ob} (h : MRep ρ id x o) : ∃ b,x=.map (some b):=by
  unfold MRep at h
  split at h
  · obtain ⟨b,K,_,h2⟩:=h; exact ⟨_,h2⟩
  · exact h
  · exact h.elim
theorem PRep.shape {ρ : Rho} {id off : Nat} {x : Value} {o : Option Ob} (h : PRep ρ id off x o) : ∃ a,x=.pointer (some a):=by
  unfold PRep at h
  split at h
  · obtain ⟨b,K,_,h2⟩:=h; exact ⟨_,h2⟩
  · exact h
  · exact h.elim
theorem ERep.shape {ρ : Rho} {id row off : Nat} {x : Value} {o : Option Ob} (h : ERep ρ id row off x o) : ∃ a,x=.pointer (some a):=by
  unfold ERep at h
  split at h
  · obtain ⟨b,K,_,h2⟩:=h; exact ⟨_,h2⟩
  · exact h
  · exact h.elim
theorem SRep.shape {ρ : Rho} {id off len : Nat} {x : Value} {o : Option Ob} (h : SRep ρ id off len x o) : ∃ a cap,x=.slice a len cap∧len≤cap∧cap≤maxLen∧(len=0∨a.isSome=true):=by
  unfold SRep at h
  split at h
  · obtain ⟨a, cap, h2, h3, h4, h5, h6⟩ := h
    refine ⟨a,cap,h2,h4,h5,?_⟩
    rcases h6 with ⟨_,h6,_⟩ | ⟨b,K,_,h7,rfl | h8⟩
    · exact .inl (by omega)
    · exact .inr rfl
    · exact .inl (by omega)
  · exact h
  · obtain ⟨_, b, cap, _, h2, h3, h4⟩ := h
    exact ⟨_,cap,h2,h3,h4,.inr rfl⟩
  · exact h.elim
theorem PRep.to {ρ ρ' : Rho} {h h' : Hp} (hl : Later ρ ρ' h h') {id off : Nat} {x : Value} (hp : PRep ρ id off x (h id)) : PRep ρ' id off x (h' id):=by
  have hsh:=hp.shape
  cases ho : h id with
  | none => rw [ho] at hp; exact hp.elim
  | some o =>
    rcases hl id o ho with hd | ⟨hr,hk⟩
    · rw [hd]; exact hsh
    · rcases hk with ⟨f, cs, f', cs', rfl, h'⟩ | ⟨f, e, sz, rows, f', e', rows', rfl, h', _⟩ | ⟨rfl, h'⟩ | ⟨f, k, v, es, f', es', rfl, h'⟩
      · rw [h']; rw [ho] at hp; simp only [PRep] at hp ⊢; rwa [hr]
      · rw [ho] at hp; exact hp.elim
      · rw [h']; exact hsh
      · rw [ho] at hp; exact hp.elim
theorem ERep.to {ρ ρ' : Rho} {h h' : Hp} (hl : Later ρ ρ' h h') {id row off : Nat} {x : Value} (hp : ERep ρ id row off x (h id)) : ERep ρ' id row off x (h' id):=by
  have hsh:=hp.shape
  cases ho : h id with
  | none => rw [ho] at hp; exact hp.elim
  | some o =>
    rcases hl id o ho with hd | ⟨hr,hk⟩
    · rw [hd]; exact hsh
    · rcases hk with ⟨f, cs, f', cs', rfl, h'⟩ | ⟨f, e, sz, rows, f', e', rows', rfl, h', _⟩ | ⟨rfl, h'⟩ | ⟨f, k, v, es, f', es', rfl, h'⟩
      · rw [ho] at hp; exact hp.elim
      · rw [h']; rw [ho] at hp; simp only [ERep] at hp ⊢; rwa [hr]
      · rw [h']; exact hsh
      · rw [ho] at hp; exact hp.elim
theorem SRep.to {ρ ρ' : Rho} {h h' : Hp} (hl : Later ρ ρ' h h') {id off len : Nat} {x : Value} (hp : SRep ρ id off len x (h id)) : SRep ρ' id off len x (h' id):=by
  have hsh:=hp.shape
  cases ho : h id with
  | none => rw [ho] at hp; exact hp.elim
  | some o =>
    rcases hl id o ho with hd | ⟨hr,hk⟩
    · rw [hd]; exact hsh
    · rcases hk with ⟨f, cs, f', cs', rfl, h'⟩ | ⟨f, e, sz, rows, f', e', rows', rfl, h', hle⟩ | ⟨rfl, h'⟩ | ⟨f, k, v, es, f', es', rfl, h'⟩
      · rw [h']; rw [ho] at hp; simp only [SRep] at hp ⊢
        rwa [hr]
      · rw [h']; rw [ho] at hp; simp only [SRep] at hp ⊢
        obtain ⟨a,cap,h1,h2,h3⟩:=hp
        refine ⟨a,cap,h1,by omega,?_⟩
        rwa [hr]
      · rw [h']; exact hsh
      · rw [ho] at hp; exact hp.elim
theorem MRep.to {ρ ρ' : Rho} {h h' : Hp} (hl : Later ρ ρ' h h') {id : Nat} {x : Value} (hp : MRep ρ id x (h id)) : MRep ρ' id x (h' id):=by
  have hsh:=hp.shape
  cases ho : h id with
  | none => rw [ho] at hp; exact hp.elim
  | some o =>
    rcases hl id o ho with hd | ⟨hr,hk⟩
    · rw [hd]; exact hsh
    · rcases hk with ⟨f, cs, f', cs', rfl, h'⟩ | ⟨f, e, sz, rows, f', e', rows', rfl, h', _⟩ | ⟨rfl, h'⟩ | ⟨f, k, v, es, f', es', rfl, h'⟩
      · rw [ho] at hp; exact hp.elim
      · rw [ho] at hp; exact hp.elim
      · rw [h']; exact hsh
      · rw [h']; rw [ho] at hp; simp only [MRep] at hp ⊢; rwa [hr]
mutual
theorem LRep.to {w w' : World} {ok ok' : Nat→Prop} {ρ ρ' : Rho} {h h' : Hp} (hs : Same w w' ok ok') (hl : Later ρ ρ' h h') : ∀ {l : LV} {x : Value},LRep w ok ρ h l x→LRep w' ok' ρ' h' l x
  | .u,x,_ => by simp only [LRep]
  | .v t,x,hx => by simp only [LRep] at hx ⊢; exact hx.to hs
  | .p id off,x,hx => by simp only [LRep] at hx ⊢; exact hx.to hl
  | .pe id row off,x,hx => by simp only [LRep] at hx ⊢; exact hx.to hl
  | .s id off len,x,hx => by simp only [LRep] at hx ⊢; exact hx.to hl
  | .m id,x,hx => by simp only [LRep] at hx ⊢; exact hx.to hl
  | .agg cs, x, hx => by
    simp only [LRep] at hx ⊢
    obtain ⟨vs,h1,h2⟩:=hx
    exact ⟨vs,h1,LReps.to hs hl h2⟩
  | .tup cs, x, hx => by
    simp only [LRep] at hx ⊢
    obtain ⟨vs,h1,h2⟩:=hx
    exact ⟨vs,h1,LReps.to hs hl h2⟩
  | .fn f cs, x, hx => by
    simp only [LRep] at hx ⊢
    obtain ⟨vs,h1,h2⟩:=hx
    exact ⟨vs,h1,LReps.to hs hl h2⟩
theorem LReps.to {w w' : World} {ok ok' : Nat→Prop} {ρ ρ' : Rho} {h h' : Hp} (hs : Same w w' ok ok') (hl : Later ρ ρ' h h') {one : Bool} : ∀ {ls : List LV} {xs : List Value},LReps w ok ρ h one ls xs→LReps w' ok' ρ' h' one ls xs
  | [],xs,hx => by simpa only [LReps] using hx
  | l :: ls, xs, hx => by
    simp only [LReps] at hx ⊢
    obtain ⟨v,r,h1,h2,h3,h4⟩:=hx
    exact ⟨v,r,h1,h2,LRep.to hs hl h3,LReps.to hs hl h4⟩
end
theorem LReps.length {w : World} {ok : Nat→Prop} {ρ : Rho} {h : Hp} {one : Bool} : ∀ {ls : List LV} {vs : List Value},LReps w ok ρ h one ls vs→vs.length=ls.length
  | [],vs,hx => by simp only [LReps] at hx; simp [hx]
  | t :: ts, vs, hx => by
    simp only [LReps] at hx
    obtain ⟨v,r,rfl,_,_,h4⟩:=hx
    simp [LReps.length h4]
theorem LReps.get {w : World} {ok : Nat→Prop} {ρ : Rho} {h : Hp} {one : Bool} : ∀ {ls : List LV} {vs : List Value},LReps w ok ρ h one ls vs→∀ (i : Nat) (l : LV),ls[i]?=some l →
    ∃ v,vs[i]?=some v∧(one=true→v.oneCell'=true)∧LRep w ok ρ h l v
  | [],vs,hx,i,t,hi => by simp at hi
  | x :: xs, vs, hx, 0, t, hi => by
    simp only [LReps] at hx
    obtain ⟨v,r,rfl,h2,h3,h4⟩:=hx
    simp only [List.getElem?_cons_zero,Option.some.injEq] at hi
    subst hi
    exact ⟨v,by simp,h2,h3⟩
  | x :: xs, vs, hx, i + 1, t, hi => by
    simp only [LReps] at hx
    obtain ⟨v,r,rfl,h2,h3,h4⟩:=hx
    simpa using LReps.get h4 i t (by simpa using hi)
theorem LReps.of {w : World} {ok : Nat→Prop} {ρ : Rho} {h : Hp} {one : Bool} : ∀ {ls : List LV} {vs : List Value},vs.length=ls.length→(∀ (i : Nat) (l : LV),ls[i]?=some l →
    ∃ v,vs[i]?=some v∧(one=true→v.oneCell'=true)∧LRep w ok ρ h l v)→LReps w ok ρ h one ls vs
  | [],vs,hl,_ => by simp only [LReps]; exact List.eq_nil_of_length_eq_zero (by simpa using hl)
  | x :: xs,[],hl,_ => by simp at hl
  | x :: xs, v :: vs, hl, hx => by
    simp only [LReps]
    obtain ⟨u,hu,h2,h3⟩:=hx 0 x (by simp)
    simp only [List.getElem?_cons_zero,Option.some.injEq] at hu
    subst hu
    exact ⟨v,vs,rfl,h2,h3,LReps.of (by simpa using hl) fun i t hi => by simpa using hx (i+1) t (by simpa using hi)⟩

/-! ### objects -/
def Ob.own : Ob→Bool
  | .var f _ => !f
  | .arr f _ _ _ => !f
  | .map f _ _ _ => !f
  | .dead => false
def Ob.live : Ob→Bool
  | .dead => false
  | _ => true
def PackRep (w : World) (ok : Nat→Prop) (ag : Bool) (cells : List TV) (x : Value) : Prop :=
  if ag=true then ∃ vs,x=.agg vs∧ValsRep w ok true cells vs.toList else ∃ t,cells=[t]∧x.oneCell'=true∧TRep w ok t x
theorem PackRep.to {w w' : World} {ok ok' : Nat→Prop} (hs : Same w w' ok ok') {ag : Bool} {cells : List TV} {x : Value} (h : PackRep w ok ag cells x) : PackRep w' ok' ag cells x:=by
  unfold PackRep at h ⊢
  split at h
  · rename_i e
    rw [if_pos e]
    obtain ⟨vs,h1,h2⟩:=h
    exact ⟨vs,h1,h2.to hs⟩
  · rename_i e
    rw [if_neg e]
    obtain ⟨t,h1,h2,h3⟩:=h
    exact ⟨t,h1,h2,h3.to hs⟩
def EntsRep (w : World) (ok : Nat→Prop) (kag vag : Bool) : List (List TV × List TV)→List MapEntry→Prop
  | [],es => es=[]
  | x :: r,es => ∃ e r',es=e :: r'∧PackRep w ok kag x.1 e.key∧PackRep w ok vag x.2 e.val∧EntsRep w ok kag vag r r'
theorem EntsRep.to {w w' : World} {ok ok' : Nat→Prop} (hs : Same w w' ok ok') {kag vag : Bool} : ∀ {xs : List (List TV × List TV)} {es : List MapEntry},EntsRep w ok kag vag xs es→EntsRep w' ok' kag vag xs es
  | [],es,h => h
  | x :: r, es, h => by
    obtain ⟨e,r',h1,h2,h3,h4⟩:=h
    exact ⟨e,r',h1,h2.to hs,h3.to hs,EntsRep.to hs h4⟩
theorem EntsRep.length {w : World} {ok : Nat→Prop} {kag vag : Bool} : ∀ {xs : List (List TV × List TV)} {es : List MapEntry},EntsRep w ok kag vag xs es→es.length=xs.length
  | [], es, h => by
    have h : es=[]:=h
    simp [h]
  | x :: r, es, h => by
    obtain ⟨e,r',rfl,h2,h3,h4⟩:=h
    simp [EntsRep.length h4]
def ORep (w : World) (ok : Nat→Prop) (ρ : Rho) (h : Hp) (id : Nat) : Ob→Prop
  | .var _ cs => ∃ b K cur ty,ρ id=some (b,K)∧w.heap[b]?=some (.cells cur ty (0,0))∧K≤cur.size∧cs.length≤cur.size∧LReps w ok ρ h true cs (cur.toList.take cs.length)
  | .arr _ e sz rows => (ρ id=none∧rows=[])∨∃ b K cur,ρ id=some (b,K)∧w.heap[b]?=some (.cells cur e (0,0))∧cur.size=K * sz∧K≤maxLen∧rows.length≤K∧RowsRep w ok sz b rows 0
  | .map _ kag vag ents => ∃ b K es clock,ρ id=some (b,K)∧w.heap[b]?=some (.map es clock)∧EntsRep w ok kag vag ents es.toList∧(∀ e∈es.toList,e.born < clock)∧(es.toList.map (·.born)).Nodup
  | .dead => True
def Free (w : World) (ok : Nat→Prop) (ρ : Rho) (h : Hp) : Prop:=∀ b,ok b→b < w.heap.size∧∀ id o K,h id=some o→o.own=true→ρ id≠some (b,K)

structure Rm where
  n : Nat
  K : Nat→Bool
  T : Nat→Value
  gh : Nat→LV × Value
  res : Nat→Option Obj
  ds : List Deferred
def Rm.may (N : Rm) (d : Nat) : Prop:=d < N.n∧N.K d=false
def Rm.plain (n : Nat) : Rm:=⟨n,fun _ => false,fun _ => undef,fun _ => (.u,undef),fun _ => none,[]⟩
def Rm.fresh (N : Rm) (w0 : World) (b : Nat) : Prop:=w0.heap.size≤b∧N.res b=none
def watchO : Obj→Bool
  | .map _ _ => true
  | _ => false
def barsO (o : Obj) (p : Ob) : Bool:=if watchO o=true then p.own else p.live
theorem own_live {p : Ob} (h : p.own=true) : p.live=true:=by cases p<;>simp_all [Ob.own,Ob.live]
theorem bars_live {o : Obj} {p : Ob} (h : barsO o p=true) : p.live=true:=by
  unfold barsO at h
  split at h
  · exact own_live h
  · exact h
theorem own_bars {o : Obj} {p : Ob} (h : p.own=true) : barsO o p=true:=by
  unfold barsO
  split
  · exact h
  · exact own_live h
theorem bars_all {o : Obj} {p : Ob} (hw : watchO o=false) (h : p.live=true) : barsO o p=true:=by
  unfold barsO
  rw [if_neg (by rw [hw]; simp)]; exact h
theorem bars_eq {o : Obj} {p q : Ob} (h1 : p.own=q.own) (h2 : p.live=q.live) : barsO o p=barsO o q:=by
  unfold barsO; rw [h1,h2]
structure Gam (N : Rm) (w0 : World) (ok0 : Nat→Prop) (st : St) (ok : Nat→Prop) (ρ : Rho) (a : Act) (w : World) : Prop where
  below : Below w0.heap.size w0 w
  old : ∀ b,ok b→b < w0.heap.size→ok0 b
  size : a.tmps.size=N.n
  defers : a.defers=N.ds
  free : Free w ok ρ st.hp
  inj : ∀ i j o o' b K K',st.hp i=some o→st.hp j=some o'→o.live=true→o'.live=true→ρ i=some (b,K)→ρ j=some (b,K')→i=j
  fresh : ∀ i o b K,st.hp i=some o→o.live=true→ρ i=some (b,K)→w0.heap.size≤b∧b < w.heap.size
  obj : ∀ i o,st.hp i=some o→ORep w ok ρ st.hp i o
  env : ∀ k,LRep w ok ρ st.hp (st.env k) (a.tmps.getD k undef)
  kept : ∀ s,N.K s=true→a.tmps.getD s undef=N.T s
  gh : ∀ k,LRep w ok ρ st.hp (N.gh k).1 (N.gh k).2
  res : ∀ b o,N.res b=some o→w0.heap.size≤b∧w.heap[b]?=some o∧(watchO o=false→¬ ok b)∧∀ i p K,st.hp i=some p→barsO o p=true→ρ i≠some (b,K)

end Go.Proofs.Ytcecojdeljbjoaa.Sx
namespace Go.Proofs.Ytcecojdeljbjoaa.Sx
open Go Go.RowKit

theorem upd_same {α : Type} (f : Nat→α) (i : Nat) (x : α) : upd f i x i=x:=by simp [upd]
theorem upd_ne {α : Type} (f : Nat→α) {i j : Nat} (x : α) (h : j≠i) : upd f i x j=f j:=by simp [upd,h]

theorem put_getD (a : Act) (d k : Nat) (v : Value) (hd : d < a.tmps.size) : (a.put (some d) v).tmps.getD k undef=if k=d then v else a.tmps.getD k undef:=by
  simp only [Act.put,Array.getD_eq_getD_getElem?,Array.getElem?_setIfInBounds]
  by_cases h : d=k
  · subst h; simp [hd]
  · rw [if_neg h,if_neg (fun e => h e.symm)]

section
variable {N : Rm} {w0 : World} {ok0 : Nat→Prop} {st : St} {ok : Nat→Prop} {ρ : Rho} {a : Act} {w : World}

theorem Gam.put (g : Gam N w0 ok0 st ok ρ a w) {d : Nat} (hd : N.may d) {l : LV} {v : Value} (hl : LRep w ok ρ st.hp l v) : Gam N w0 ok0 (st.set d l) ok ρ (a.put (some d) v) w :=
  { below:=g.below,old:=g.old,size:=by simp [Act.put,g.size],defers:=by simp [Act.put,g.defers],free:=g.free,inj:=g.inj,fresh:=g.fresh,obj:=g.obj,gh:=g.gh,res:=g.res
    kept:=fun s hs => by
      rw [put_getD a d s v (by rw [g.size]; exact hd.1),if_neg (fun e => by subst e; rw [hd.2] at hs; cases hs)]
      exact g.kept s hs
    env:=fun k => by
      rw [put_getD a d k v (by rw [g.size]; exact hd.1)]
      simp only [St.set,upd]
      split
      · exact hl
      · exact g.env k }

theorem ORep.to {w w' : World} {ok ok' : Nat→Prop} {ρ ρ' : Rho} {h h' : Hp} (hs : Same w w' ok ok') (hl : Later ρ ρ' h h') {id : Nat} {o : Ob} (hr : ρ' id=ρ id)
    (hb : ∀ b K,ρ id=some (b,K)→w'.heap[b]?=w.heap[b]?) (ho : ORep w ok ρ h id o) : ORep w' ok' ρ' h' id o:=by
  cases o with
  | dead => trivial
  | var f cs =>
    obtain ⟨b,K,cur,ty,h1,h2,h3,h4,h5⟩:=ho
    exact ⟨b,K,cur,ty,by rw [hr]; exact h1,by rw [hb b K h1]; exact h2,h3,h4,h5.to hs hl⟩
  | arr f e sz rows =>
    rcases ho with ⟨h1,h2⟩ | ⟨b,K,cur,h1,h2,h3,h4,h5,h6⟩
    · exact .inl ⟨by rw [hr]; exact h1,h2⟩
    · exact .inr ⟨b,K,cur,by rw [hr]; exact h1,by rw [hb b K h1]; exact h2,h3,h4,h5,h6.at hs (hb b K h1)⟩
  | map f k v es =>
    obtain ⟨b,K,en,cl,h1,h2,h3,h4⟩:=ho
    exact ⟨b,K,en,cl,by rw [hr]; exact h1,by rw [hb b K h1]; exact h2,h3.to hs,h4⟩

theorem Gam.world (g : Gam N w0 ok0 st ok ρ a w) {w' : World} (hb : Below w.heap.size w w') : Gam N w0 ok0 st ok ρ a w':=by
  have hsz:=hb.size
  have hs : Same w w' ok ok:=fun b h => ⟨hb.block b (g.free b h).1,h⟩
  have hl:=Later.refl ρ st.hp
  exact {
    below:=g.below.trans (hb.mono g.below.size),old:=g.old,size:=g.size,defers:=g.defers
    free:=fun b h => ⟨Nat.lt_of_lt_of_le (g.free b h).1 hsz,(g.free b h).2⟩
    inj:=g.inj
    fresh:=fun i o b K h1 h2 h3 => ⟨(g.fresh i o b K h1 h2 h3).1,Nat.lt_of_lt_of_le (g.fresh i o b K h1 h2 h3).2 hsz⟩
    obj:=fun i o h => by
      cases hlv : o.live with
      | false => cases o with
        | dead => trivial
        | var f cs => simp [Ob.live] at hlv
        | arr f e sz rows => simp [Ob.live] at hlv
        | map f k v es => simp [Ob.live] at hlv
      | true => exact (g.obj i o h).to hs hl rfl fun b K hr => hb.block b (g.fresh i o b K h hlv hr).2
    env:=fun k => (g.env k).to hs hl
    kept:=g.kept
    gh:=fun k => (g.gh k).to hs hl
    res:=fun b o h => by
      obtain ⟨h1,h2,h3,h4⟩:=g.res b o h
      exact ⟨h1,(hb.block b (Array.getElem?_eq_some_iff.1 h2).1).trans h2,h3,h4⟩ }

theorem below_drew (w : World) : Below w.heap.size w w.drew:=⟨rfl,rfl,rfl,Nat.le_refl _,fun _ _ => rfl⟩
theorem Gam.drew (g : Gam N w0 ok0 st ok ρ a w) : Gam N w0 ok0 st ok ρ a w.drew:=g.world (below_drew w)

theorem Gam.grow (g : Gam N w0 ok0 st ok ρ a w) {ok' : Nat→Prop} (h : ∀ b,ok b→ok' b) (hold : ∀ b,ok' b→b < w0.heap.size→ok0 b) (hf : Free w ok' ρ st.hp) (hres : ∀ b o,N.res b=some o→watchO o=false→¬ ok' b) : Gam N w0 ok0 st ok' ρ a w:=by
  have hs : Same w w ok ok':=fun b hb => ⟨rfl,h b hb⟩
  exact { below:=g.below,old:=hold,size:=g.size,defers:=g.defers,free:=hf,inj:=g.inj,fresh:=g.fresh
          obj:=fun i o ho => (g.obj i o ho).to hs (Later.refl ρ st.hp) rfl fun _ _ _ => rfl
          env:=fun k => (g.env k).to hs (Later.refl ρ st.hp)
          kept:=g.kept,gh:=fun k => (g.gh k).to hs (Later.refl ρ st.hp)
          res:=fun b o h => ⟨(g.res b o h).1,(g.res b o h).2.1,hres b o h,(g.res b o h).2.2.2⟩ }

theorem later_new {ρ : Rho} {h : Hp} {k : Nat} (hk : h k=none) (x : Option (Nat × Nat)) (o : Ob) : Later ρ (upd ρ k x) h (upd h k (some o)):=fun id p hp => by
  have hne : id≠k:=fun e => by rw [e,hk] at hp; cases hp
  rw [upd_ne ρ _ hne,upd_ne h _ hne]
  exact (Later.refl ρ h) id p hp

theorem Gam.adopt (g : Gam N w0 ok0 st ok ρ a w) {k : Nat} (hk : st.hp k=none) {o : Ob} {x : Option (Nat × Nat)}
    (hx : ∀ b K,x=some (b,K)→N.fresh w0 b∧b < w.heap.size∧¬ ok b∧∀ i p K',st.hp i=some p→p.live=true→ρ i≠some (b,K'))
    (ho : ORep w ok (upd ρ k x) (upd st.hp k (some o)) k o) : Gam N w0 ok0 { st with hp:=upd st.hp k (some o) } ok (upd ρ k x) a w:=by
  have hs:=Same.refl w ok
  have hl:=later_new (ρ:=ρ) hk x o
  refine { below:=g.below,old:=g.old,size:=g.size,defers:=g.defers,free:=?_,inj:=?_,fresh:=?_,obj:=?_,env:=fun k => (g.env k).to hs hl,kept:=g.kept,gh:=fun k => (g.gh k).to hs hl,res:=?_ }
  · intro b hb
    refine ⟨(g.free b hb).1,fun id p K hp hown => ?_⟩
    by_cases e : id=k
    · subst e
      rw [upd_same]
      intro hr
      exact (hx b K hr).2.2.1 hb
    · simp only [upd_ne _ _ e] at hp ⊢
      exact (g.free b hb).2 id p K hp hown
  · intro i j p p' b K K' hi hj hpl hpl' hri hrj
    by_cases ei : i=k
    · by_cases ej : j = k
      · rw [ei,ej]
      · subst ei
        rw [upd_same] at hri
        simp only [upd_ne _ _ ej] at hj hrj
        exact absurd hrj ((hx b K hri).2.2.2 j p' K' hj hpl')
    · by_cases ej : j = k
      · subst ej
        rw [upd_same] at hrj
        simp only [upd_ne _ _ ei] at hi hri
        exact absurd hri ((hx b K' hrj).2.2.2 i p K hi hpl)
      · simp only [upd_ne _ _ ei] at hi hri
        simp only [upd_ne _ _ ej] at hj hrj
        exact g.inj i j p p' b K K' hi hj hpl hpl' hri hrj
  · intro i p b K hi hpl hri
    by_cases ei : i=k
    · subst ei
      rw [upd_same] at hri
      exact ⟨(hx b K hri).1.1,(hx b K hri).2.1⟩
    · simp only [upd_ne _ _ ei] at hi hri
      exact g.fresh i p b K hi hpl hri
  · intro i p hi
    by_cases ei : i=k
    · subst ei
      have hi' : (upd st.hp i (some o)) i=some p:=hi
      rw [upd_same] at hi'
      rw [← Option.some.inj hi']
      exact ho
    · simp only [upd_ne _ _ ei] at hi
      exact (g.obj i p hi).to hs hl (upd_ne ρ _ ei) fun _ _ _ => rfl
  · intro b p h
    obtain ⟨h1,h2,h3,h4⟩:=g.res b p h
    refine ⟨h1,h2,h3,fun i q K hi hl hri => ?_⟩
    by_cases ei : i=k
    · subst ei
      rw [upd_same] at hri
      rw [(hx b K hri).1.2] at h
      cases h
    · simp only [upd_ne _ _ ei] at hi hri
      exact h4 i q K hi hl hri

theorem below_alloc (w : World) (x : Obj) : Below w.heap.size w (w.alloc x):=(Below.refl _ _).alloc (Nat.le_refl _) _

theorem Gam.res_none (g : Gam N w0 ok0 st ok ρ a w) {b : Nat} (hb : w.heap.size≤b:=by exact Nat.le_refl _) : N.res b=none:=by
  cases hr : N.res b with
  | none => rfl
  | some o => exact absurd (Array.getElem?_eq_some_iff.1 (g.res _ o hr).2.1).1 (Nat.not_lt.2 hb)
theorem Gam.new (g : Gam N w0 ok0 st ok ρ a w) {k : Nat} (hk : st.hp k=none) {o : Ob} (cur : Array Value) (ty : TypeId) (K : Nat)
    (ho : ORep (w.alloc (.cells cur ty)) ok (upd ρ k (some (w.heap.size,K))) (upd st.hp k (some o)) k o) :
    Gam N w0 ok0 { st with hp:=upd st.hp k (some o) } ok (upd ρ k (some (w.heap.size,K))) a (w.alloc (.cells cur ty)):=by
  have g':=g.world (below_alloc w (.cells cur ty))
  refine g'.adopt hk (fun b K' hx => ?_) ho
  have hb : w.heap.size=b:=by have:=Option.some.inj hx; exact congrArg Prod.fst this
  subst hb
  exact ⟨⟨g.below.size,g.res_none⟩,by simp,fun h => Nat.lt_irrefl _ (g.free _ h).1,fun i p K' hi hpl hr => Nat.lt_irrefl _ (g.fresh i p _ K' hi hpl hr).2⟩

theorem later_kind {ρ : Rho} {h : Hp} {id : Nat} {o o' : Ob} (ho : h id=some o)
    (hk : (∃ f cs f' cs',o=.var f cs∧o'=.var f' cs')∨(∃ f e sz rows f' e' rows',o=.arr f e sz rows∧o'=.arr f' e' sz rows'∧rows.length≤rows'.length)∨(∃ f k v es f' es',o=.map f k v es∧o'=.map f' k v es')) :
    Later ρ ρ h (upd h id (some o')):=fun j p hp => by
  by_cases e : j=id
  · subst e
    rw [ho] at hp
    obtain rfl:=Option.some.inj hp
    rw [upd_same]
    refine .inr ⟨rfl,?_⟩
    rcases hk with ⟨f,cs,f',cs',h1,h2⟩ | ⟨f,e,sz,rows,f',e',rows',h1,h2,h3⟩ | ⟨f,k,v,es,f',es',h1,h2⟩
    · exact .inl ⟨f,cs,f',cs',h1,by rw [h2]⟩
    · exact .inr (.inl ⟨f,e,sz,rows,f',e',rows',h1,by rw [h2],h3⟩)
    · exact .inr (.inr (.inr ⟨f,k,v,es,f',es',h1,by rw [h2]⟩))
  · rw [upd_ne h _ e]
    exact (Later.refl ρ h) j p hp

theorem Gam.turn (g : Gam N w0 ok0 st ok ρ a w) {id : Nat} {o o' : Ob} (ho : st.hp id=some o) (hown : o.own=true) (hown' : o'.own=true) {b K : Nat} (hr : ρ id=some (b,K))
    (hk : (∃ f cs f' cs',o=.var f cs∧o'=.var f' cs')∨(∃ f e sz rows f' e' rows',o=.arr f e sz rows∧o'=.arr f' e' sz rows'∧rows.length≤rows'.length)∨(∃ f k v es f' es',o=.map f k v es∧o'=.map f' k v es'))
    {w1 : World} (hbw : Below b w w1) (hother : ∀ k,k≠b→w1.heap[k]?=w.heap[k]?) (hsz : w1.heap.size=w.heap.size) (hnew : ORep w1 ok ρ (upd st.hp id (some o')) id o') :
    Gam N w0 ok0 { st with hp:=upd st.hp id (some o') } ok ρ a w1:=by
  have hlive : o.live=true:=by rcases hk with ⟨f,cs,f',cs',rfl,_⟩ | ⟨f,e,sz,rows,f',e',rows',rfl,_⟩ | ⟨f,k,v,es,f',es',rfl,_⟩<;>rfl
  have hlive' : o'.live=true:=by rcases hk with ⟨f,cs,f',cs',_,rfl⟩ | ⟨f,e,sz,rows,f',e',rows',_,rfl,_⟩ | ⟨f,k,v,es,f',es',_,rfl⟩<;>rfl
  have hfr:=g.fresh id o b K ho hlive hr
  have hnot : ¬ ok b:=fun h => (g.free b h).2 id o K ho hown hr
  have hs : Same w w1 ok ok:=fun k h => ⟨hother k (fun e => hnot (e ▸ h)),h⟩
  have hl:=later_kind (ρ:=ρ) ho hk
  refine { below:=?_,old:=g.old,size:=g.size,defers:=g.defers,free:=?_,inj:=?_,fresh:=?_,obj:=?_,env:=fun k => (g.env k).to hs hl,kept:=g.kept,gh:=fun k => (g.gh k).to hs hl,res:=?_ }
  · exact g.below.trans (hbw.mono hfr.1)
  · intro c hc
    refine ⟨by rw [hsz]; exact (g.free c hc).1,fun i p K' hi hown2 => ?_⟩
    by_cases e : i=id
    · subst e
      exact (g.free c hc).2 i o K' ho hown
    · simp only [upd_ne _ _ e] at hi
      exact (g.free c hc).2 i p K' hi hown2
  · intro i j p p' c K1 K2 hi hj hpl hpl' hri hrj
    have key : ∀ i p,(upd st.hp id (some o')) i=some p→p.live=true→∃ p,st.hp i=some p∧p.live=true:=by
      intro i p hi hpl
      by_cases e : i=id
      · subst e; exact ⟨o,ho,hlive⟩
      · simp only [upd_ne _ _ e] at hi; exact ⟨p,hi,hpl⟩
    obtain ⟨q,hq,hql⟩:=key i p hi hpl
    obtain ⟨q',hq',hql'⟩:=key j p' hj hpl'
    exact g.inj i j q q' c K1 K2 hq hq' hql hql' hri hrj
  · intro i p c K' hi hpl hri
    rw [hsz]
    by_cases e : i=id
    · subst e; exact g.fresh i o c K' ho hlive hri
    · simp only [upd_ne _ _ e] at hi
      exact g.fresh i p c K' hi hpl hri
  · intro i p hi
    by_cases e : i=id
    · subst e
      have hi' : (upd st.hp i (some o')) i=some p:=hi
      rw [upd_same] at hi'
      rw [← Option.some.inj hi']
      exact hnew
    · simp only [upd_ne _ _ e] at hi
      cases hpl : p.live with
      | false => cases p with
        | dead => trivial
        | var f cs => simp [Ob.live] at hpl
        | arr f e sz rows => simp [Ob.live] at hpl
        | map f k v es => simp [Ob.live] at hpl
      | true => exact (g.obj i p hi).to hs hl rfl fun c K' hc => hother c fun e' => by subst e'; exact e (g.inj i id p o c K' K hi ho hpl hlive hc hr)
  · intro c p h
    obtain ⟨h1,h2,h3,h4⟩:=g.res c p h
    have hcb : c≠b:=fun e => by subst e; exact h4 id o K ho (own_bars hown) hr
    refine ⟨h1,(hother c hcb).trans h2,h3,fun i q K' hi hl hri => ?_⟩
    by_cases e : i=id
    · subst e; exact h4 i o K' ho (own_bars hown) hri
    · simp only [upd_ne _ _ e] at hi
      exact h4 i q K' hi hl hri

theorem Gam.write (g : Gam N w0 ok0 st ok ρ a w) {id : Nat} {o o' : Ob} (ho : st.hp id=some o) (hown : o.own=true) (hown' : o'.own=true) {b K : Nat} (hr : ρ id=some (b,K))
    (hk : (∃ f cs f' cs',o=.var f cs∧o'=.var f' cs')∨(∃ f e sz rows f' e' rows',o=.arr f e sz rows∧o'=.arr f' e' sz rows'∧rows.length≤rows'.length))
    (cur : Array Value) (hnew : ORep (w.setRow b cur) ok ρ (upd st.hp id (some o')) id o') :
    Gam N w0 ok0 { st with hp:=upd st.hp id (some o') } ok ρ a (w.setRow b cur) :=
  g.turn ho hown hown' hr (by rcases hk with h | h; exact .inl h; exact .inr (.inl h)) ⟨rfl,rfl,rfl,by simp,fun k hk => setRow_other w b k cur (by omega)⟩ (fun k hk => setRow_other w b k cur hk) (by simp) hnew

theorem later_kill {ρ : Rho} {h : Hp} (id : Nat) : Later ρ ρ h (upd h id (some .dead)):=fun j p hp => by
  by_cases e : j=id
  · subst e; rw [upd_same]; exact .inl rfl
  · rw [upd_ne h _ e]; exact (Later.refl ρ h) j p hp
theorem Gam.kill (g : Gam N w0 ok0 st ok ρ a w) (id : Nat) : Gam N w0 ok0 { st with hp:=upd st.hp id (some .dead) } ok ρ a w:=by
  have hs:=Same.refl w ok
  have hl:=later_kill (ρ:=ρ) (h:=st.hp) id
  have key : ∀ i p,(upd st.hp id (some .dead)) i=some p→p.live=true→st.hp i=some p:=by
    intro i p hi hpl
    by_cases e : i=id
    · subst e; rw [upd_same] at hi; rw [← Option.some.inj hi] at hpl; cases hpl
    · rwa [upd_ne _ _ e] at hi
  refine { below:=g.below,old:=g.old,size:=g.size,defers:=g.defers,free:=?_,inj:=?_,fresh:=?_,obj:=?_,env:=fun k => (g.env k).to hs hl,kept:=g.kept,gh:=fun k => (g.gh k).to hs hl,res:=fun b o h => ⟨(g.res b o h).1,(g.res b o h).2.1,(g.res b o h).2.2.1,fun i p K hi hl => (g.res b o h).2.2.2 i p K (key i p hi (bars_live hl)) hl⟩ }
  · intro c hc
    refine ⟨(g.free c hc).1,fun i p K' hi hown => ?_⟩
    have hpl : p.live=true:=by cases p<;>simp_all [Ob.own,Ob.live]
    exact (g.free c hc).2 i p K' (key i p hi hpl) hown
  · intro i j p p' c K1 K2 hi hj hpl hpl' hri hrj
    exact g.inj i j p p' c K1 K2 (key i p hi hpl) (key j p' hj hpl') hpl hpl' hri hrj
  · intro i p c K' hi hpl hri
    exact g.fresh i p c K' (key i p hi hpl) hpl hri
  · intro i p hi
    cases hpl : p.live with
    | false => cases p with
      | dead => trivial
      | var f cs => simp [Ob.live] at hpl
      | arr f e sz rows => simp [Ob.live] at hpl
      | map f k v es => simp [Ob.live] at hpl
    | true => exact (g.obj i p (key i p hi hpl)).to hs hl rfl fun _ _ _ => rfl

theorem Gam.moveIn (g : Gam N w0 ok0 st ok ρ a w) {id k : Nat} {o o' : Ob} (hk : (upd st.hp id (some .dead)) k=none) (ho : st.hp id=some o) (hown : o.own=true) (hlive' : o'.live=true) {b K K' : Nat} (hr : ρ id=some (b,K))
    (cur : Array Value) (hnew : ORep (w.setRow b cur) ok (upd ρ k (some (b,K'))) (upd (upd st.hp id (some .dead)) k (some o')) k o') :
    Gam N w0 ok0 { st with hp:=upd (upd st.hp id (some .dead)) k (some o') } ok (upd ρ k (some (b,K'))) a (w.setRow b cur):=by
  have hlive : o.live=true:=by cases o<;>simp_all [Ob.own,Ob.live]
  have hfr:=g.fresh id o b K ho hlive hr
  have hnot : ¬ ok b:=fun h => (g.free b h).2 id o K ho hown hr
  have hother : ∀ k,k≠b→(w.setRow b cur).heap[k]?=w.heap[k]?:=fun k hk => setRow_other w b k cur hk
  have hs : Same w (w.setRow b cur) ok ok:=fun k h => ⟨hother k (fun e => hnot (e ▸ h)),h⟩
  have hne : k≠id:=fun e => by subst e; rw [upd_same] at hk; cases hk
  have hk0 : st.hp k=none:=by rwa [upd_ne _ _ hne] at hk
  have hl : Later ρ (upd ρ k (some (b,K'))) st.hp (upd (upd st.hp id (some .dead)) k (some o')):=fun j p hp => by
    have hjk : j≠k:=fun e => by rw [e,hk0] at hp; cases hp
    rw [upd_ne ρ _ hjk,upd_ne _ _ hjk]
    exact (later_kill (ρ:=ρ) (h:=st.hp) id) j p hp
  have key : ∀ i p,(upd (upd st.hp id (some .dead)) k (some o')) i=some p→p.live=true→i=k∧p=o'∨i≠k∧i≠id∧st.hp i=some p:=by
    intro i p hi hpl
    by_cases e : i=k
    · subst e; rw [upd_same] at hi; exact .inl ⟨rfl,(Option.some.inj hi).symm⟩
    · rw [upd_ne _ _ e] at hi
      by_cases e' : i=id
      · subst e'; rw [upd_same] at hi; rw [← Option.some.inj hi] at hpl; cases hpl
      · rw [upd_ne _ _ e'] at hi; exact .inr ⟨e,e',hi⟩
  have far : ∀ i p c K1,i≠id→st.hp i=some p→p.live=true→ρ i=some (c,K1)→c≠b:=by
    intro i p c K1 hi hp hpl hc e
    subst e
    exact hi (g.inj i id p o c K1 K hp ho hpl hlive hc hr)
  refine { below:=?_,old:=g.old,size:=g.size,defers:=g.defers,free:=?_,inj:=?_,fresh:=?_,obj:=?_,env:=fun k => (g.env k).to hs hl,kept:=g.kept,gh:=fun k => (g.gh k).to hs hl,res:=?_ }
  · exact g.below.trans ⟨rfl,rfl,rfl,by simp,fun k hk => hother k (by omega)⟩
  · intro c hc
    refine ⟨by simpa using (g.free c hc).1,fun i p K1 hi hown2 => ?_⟩
    have hpl : p.live=true:=by cases p<;>simp_all [Ob.own,Ob.live]
    rcases key i p hi hpl with ⟨rfl,rfl⟩ | ⟨h1,h2,h3⟩
    · rw [upd_same]
      intro e
      have : b=c:=congrArg Prod.fst (Option.some.inj e)
      exact hnot (this ▸ hc)
    · rw [upd_ne _ _ h1]
      exact (g.free c hc).2 i p K1 h3 hown2
  · intro i j p p' c K1 K2 hi hj hpl hpl' hri hrj
    rcases key i p hi hpl with ⟨rfl,rfl⟩ | ⟨h1,h2,h3⟩
    · rcases key j p' hj hpl' with ⟨rfl, rfl⟩ | ⟨g1, g2, g3⟩
      · rfl
      · rw [upd_same] at hri
        rw [upd_ne _ _ g1] at hrj
        have : b=c:=congrArg Prod.fst (Option.some.inj hri)
        exact absurd this.symm (far j p' c K2 g2 g3 hpl' hrj)
    · rcases key j p' hj hpl' with ⟨rfl, rfl⟩ | ⟨g1, g2, g3⟩
      · rw [upd_same] at hrj
        rw [upd_ne _ _ h1] at hri
        have : b=c:=congrArg Prod.fst (Option.some.inj hrj)
        exact absurd this.symm (far i p c K1 h2 h3 hpl hri)
      · rw [upd_ne _ _ h1] at hri
        rw [upd_ne _ _ g1] at hrj
        exact g.inj i j p p' c K1 K2 h3 g3 hpl hpl' hri hrj
  · intro i p c K1 hi hpl hri
    simp only [size_setRow]
    rcases key i p hi hpl with ⟨rfl,rfl⟩ | ⟨h1,h2,h3⟩
    · rw [upd_same] at hri
      have : b=c:=congrArg Prod.fst (Option.some.inj hri)
      rw [← this]; exact hfr
    · rw [upd_ne _ _ h1] at hri
      exact g.fresh i p c K1 h3 hpl hri
  · intro i p hi
    cases hpl : p.live with
    | false => cases p with
      | dead => trivial
      | var f cs => simp [Ob.live] at hpl
      | arr f e sz rows => simp [Ob.live] at hpl
      | map f k v es => simp [Ob.live] at hpl
    | true =>
      rcases key i p hi hpl with ⟨rfl,rfl⟩ | ⟨h1,h2,h3⟩
      · exact hnew
      · exact (g.obj i p h3).to hs hl (upd_ne ρ _ h1) fun c K1 hc => hother c (far i p c K1 h2 h3 hpl hc)
  · intro c p h
    obtain ⟨h1,h2,h3,h4⟩:=g.res c p h
    have hcb : c≠b:=fun e => by subst e; exact h4 id o K ho (own_bars hown) hr
    refine ⟨h1,(hother c hcb).trans h2,h3,fun i q K1 hi hl hri => ?_⟩
    rcases key i q hi (bars_live hl) with ⟨rfl,rfl⟩ | ⟨k1,k2,k3⟩
    · rw [upd_same] at hri
      exact hcb (congrArg Prod.fst (Option.some.inj hri)).symm
    · rw [upd_ne _ _ k1] at hri
      exact h4 i q K1 k3 hl hri

/-! ### to freeze -/
theorem later_freeze1 {ρ : Rho} {h : Hp} (i : Nat) : Later ρ ρ h (upd h i (frz (h i))):=fun j p hp => by
  by_cases e : j=i
  · subst e
    rw [upd_same,hp]
    refine .inr ⟨rfl,?_⟩
    cases p with
    | var f cs => exact .inl ⟨f,cs,true,cs,rfl,rfl⟩
    | arr f e sz rows => exact .inr (.inl ⟨f,e,sz,rows,true,e,rows,rfl,rfl,Nat.le_refl _⟩)
    | dead => exact .inr (.inr (.inl ⟨rfl,rfl⟩))
    | map f k v es => exact .inr (.inr (.inr ⟨f,k,v,es,true,es,rfl,rfl⟩))
  · rw [upd_ne h _ e]; exact (Later.refl ρ h) j p hp
theorem ORep.fz {w : World} {ok : Nat→Prop} {ρ : Rho} {h : Hp} {id : Nat} {o : Ob} (ho : ORep w ok ρ h id o) : ORep w ok ρ h id o.freeze:=by cases o<;>exact ho
theorem Ob.live_freeze (o : Ob) : o.freeze.live=o.live:=by cases o<;>rfl
theorem Ob.own_freeze (o : Ob) : o.freeze.own=false:=by cases o<;>rfl
theorem bars_freeze {o : Obj} {q : Ob} (h : barsO o q.freeze=true) : barsO o q=true:=by
  unfold barsO at h ⊢
  split at h
  · rw [Ob.own_freeze] at h; cases h
  · rename_i hw
    rw [Ob.live_freeze] at h
    rw [if_neg hw]; exact h
theorem Gam.freeze1 (g : Gam N w0 ok0 st ok ρ a w) (i : Nat) : Gam N w0 ok0 { st with hp:=upd st.hp i (frz (st.hp i)) } ok ρ a w:=by
  have hs:=Same.refl w ok
  have hl:=later_freeze1 (ρ:=ρ) (h:=st.hp) i
  have key : ∀ j p,(upd st.hp i (frz (st.hp i))) j=some p→∃ q,st.hp j=some q∧(p=q∨p=q.freeze):=by
    intro j p hp
    by_cases e : j=i
    · subst e
      rw [upd_same] at hp
      cases hq : st.hp j with
      | none => rw [hq] at hp; cases hp
      | some q => rw [hq] at hp; exact ⟨q,rfl,.inr (Option.some.inj hp).symm⟩
    · rw [upd_ne _ _ e] at hp; exact ⟨p,hp,.inl rfl⟩
  have keyl : ∀ j p,(upd st.hp i (frz (st.hp i))) j=some p→p.live=true→∃ q,st.hp j=some q∧q.live=true:=by
    intro j p hp hpl
    obtain ⟨q,hq,rfl | rfl⟩:=key j p hp
    · exact ⟨p,hq,hpl⟩
    · exact ⟨q,hq,by rwa [Ob.live_freeze] at hpl⟩
  refine { below:=g.below,old:=g.old,size:=g.size,defers:=g.defers,free:=?_,inj:=?_,fresh:=?_,obj:=?_,env:=fun k => (g.env k).to hs hl,kept:=g.kept,gh:=fun k => (g.gh k).to hs hl,res:=fun b o h => ⟨(g.res b o h).1,(g.res b o h).2.1,(g.res b o h).2.2.1,fun j p K hj hl => by
    obtain ⟨q,hq,hqp⟩:=key j p hj
    refine (g.res b o h).2.2.2 j q K hq ?_
    rcases hqp with rfl | rfl
    · exact hl
    · exact bars_freeze hl⟩ }
  · intro c hc
    refine ⟨(g.free c hc).1,fun j p K' hj hown => ?_⟩
    obtain ⟨q,hq,rfl | rfl⟩:=key j p hj
    · exact (g.free c hc).2 j p K' hq hown
    · rw [Ob.own_freeze] at hown; cases hown
  · intro j1 j2 p p' c K1 K2 hi hj hpl hpl' hri hrj
    obtain ⟨q,hq,hql⟩:=keyl j1 p hi hpl
    obtain ⟨q',hq',hql'⟩:=keyl j2 p' hj hpl'
    exact g.inj j1 j2 q q' c K1 K2 hq hq' hql hql' hri hrj
  · intro j p c K' hj hpl hr
    obtain ⟨q,hq,hql⟩:=keyl j p hj hpl
    exact g.fresh j q c K' hq hql hr
  · intro j p hj
    obtain ⟨q,hq,rfl | rfl⟩:=key j p hj
    · exact (g.obj j p hq).to hs hl rfl fun _ _ _ => rfl
    · exact ((g.obj j q hq).to hs hl rfl fun _ _ _ => rfl).fz
theorem Gam.freezeAll (is : List Nat) : ∀ {st : St},Gam N w0 ok0 st ok ρ a w→Gam N w0 ok0 { st with hp:=freezeAll st.hp is } ok ρ a w:=by
  induction is with
  | nil => intro st g; exact g
  | cons i is ih => intro st g; exact ih (g.freeze1 i)
theorem freezeAll_get (is : List Nat) : ∀ (h : Hp) (j : Nat),Sx.freezeAll h is j=h j∨∃ o,h j=some o∧Sx.freezeAll h is j=some o.freeze:=by
  induction is with
  | nil => intro h j; exact .inl rfl
  | cons i is ih =>
    intro h j
    have hone : upd h i (frz (h i)) j=h j∨∃ o,h j=some o∧upd h i (frz (h i)) j=some o.freeze:=by
      by_cases e : j=i
      · subst e
        rw [upd_same]
        cases hj : h j with
        | none => exact .inl rfl
        | some o => exact .inr ⟨o,rfl,rfl⟩
      · exact .inl (upd_ne _ _ e)
    have ff : ∀ o : Ob,o.freeze.freeze=o.freeze:=fun o => by cases o<;>rfl
    rcases ih (upd h i (frz (h i))) j with h1 | ⟨o,h1,h2⟩
    · rcases hone with h3 | ⟨o, h3, h4⟩
      · exact .inl (h1.trans h3)
      · exact .inr ⟨o,h3,h1.trans h4⟩
    · rcases hone with h3 | ⟨p, h3, h4⟩
      · exact .inr ⟨o,by rw [← h3]; exact h1,h2⟩
      · rw [h4] at h1
        refine .inr ⟨p,h3,?_⟩
        show Sx.freezeAll _ is j=_
        rw [h2,← Option.some.inj h1,ff]
theorem freezeAll_mem (is : List Nat) : ∀ (h : Hp) (j : Nat),j∈is→∀ o,Sx.freezeAll h is j=some o→o.own=false:=by
  induction is with
  | nil => intro h j hj; simp at hj
  | cons i is ih =>
    intro h j hj o ho
    by_cases hm : j∈is
    · exact ih _ j hm o ho
    · have e : j = i := by simpa [hm] using hj
      subst e
      have ho' : Sx.freezeAll (upd h j (frz (h j))) is j=some o:=ho
      rcases freezeAll_get is (upd h j (frz (h j))) j with h1 | ⟨p,h1,h2⟩
      · rw [h1, upd_same] at ho'
        cases hj : h j with
        | none => rw [hj] at ho'; cases ho'
        | some q => rw [hj] at ho'; rw [← Option.some.inj ho']; exact Ob.own_freeze q
      · rw [h2] at ho'; rw [← Option.some.inj ho']; exact Ob.own_freeze p
end
end Go.Proofs.Ytcecojdeljbjoaa.Sx
namespace Go.Proofs.Ytcecojdeljbjoaa.Sx
open Go Go.RowKit

section
variable {P : Program} (w : World)

theorem addr_add (b o n : Nat) : (⟨b,o,none⟩ : Addr).add n=⟨b,o+n,none⟩:=by unfold Addr.add; split<;>simp_all

theorem run_sizeOf {t : TypeId} {n : Nat} (h : size? P t=some n) : (sizeOf t).run P w=.ok n w:=by
  unfold size? at h
  cases hi : P.info? t with
  | none => simp [hi] at h
  | some i => simp [hi] at h; simp [sizeOf,typeInfo,hi,h]

theorem run_isAgg {t : TypeId} {d : TypeDesc} (h : P.underlying t=some d) : (isAgg t).run P w=.ok (isAggB P t) w:=by
  simp only [isAgg,Sem.run_bind,run_underlying h,Result.andThen_ok,isAggB,h]
  cases d<;>rfl

theorem underlying_of_agg {t : TypeId} (ha : isAggB P t=true) : ∃ d,P.underlying t=some d:=by
  unfold isAggB at ha
  split at ha
  · exact ⟨_,by assumption⟩
  · exact ⟨_,by assumption⟩
  · cases ha

theorem run_zeroValue {t : TypeId} {z : Value} (h : (P.info? t).bind (·.zero)=some z) : (zeroValue t).run P w=.ok z w:=by
  cases hi : P.info? t with
  | none => simp [hi] at h
  | some i => simp [hi] at h; simp [zeroValue,typeInfo,hi,h]

/-! ### to load,to store -/
def packV (ag : Bool) (vs : List Value) : Value:=if ag then .agg vs.toArray else vs.headD undef

theorem run_loadVar {t : TypeId} {d : TypeDesc} {n : Nat} (hd : P.underlying t=some d) (hs : size? P t=some n) (b o : Nat) (vs : List Value) (hl : vs.length=n) (hag : isAggB P t=false→n=1)
    (hc : ∀ j v,vs[j]?=some v→w.cell? ⟨b,o+j,none⟩=some v) : (loadVar t ⟨b,o,none⟩).run P w=.ok (packV (isAggB P t) vs) w:=by
  have hcells : ∀ j v,vs[j]?=some v→w.cell? ((⟨b,o,none⟩ : Addr).add j)=some v:=fun j v h => by rw [addr_add]; exact hc j v h
  simp only [loadVar,Sem.run_bind,run_isAgg w hd,Result.andThen_ok]
  cases ha : isAggB P t with
  | true =>
    have hr:=run_loadCells_list (P:=P) w ⟨b,o,none⟩ vs hcells
    rw [hl] at hr
    simp [run_sizeOf w hs,hr,packV]
  | false =>
    have h1:=hag ha
    subst h1
    obtain ⟨v,rfl⟩ : ∃ v,vs=[v]:=by
      match vs,hl with
      | [v],_ => exact ⟨v,rfl⟩
    have:=hc 0 v (by simp)
    simp only [Nat.add_zero] at this
    simp [packV,run_load,this]

theorem run_storeVar {t : TypeId} {n : Nat} (hs : size? P t=some n) (b o : Nat) (ty : TypeId) (cur : Array Value) (v : Value) (hg : w.heap[b]?=some (.cells cur ty (0,0)))
    (hl : v.cells.size=n) (hfit : o+n≤cur.size) (h1 : ∀ u∈v.cells.toList,u.oneCell'=true) :
    (storeVar t ⟨b,o,none⟩ v).run P w=.ok () (w.setRow b (cur.toList.take o++v.cells.toList++cur.toList.drop (o+n)).toArray):=by
  have hst:=run_storeCells_at P b o ty v.cells.toList 0 cur w hg (by simpa [hl] using hfit) h1
  simp only [Nat.add_zero,Array.length_toList,hl] at hst
  simp [storeVar,run_sizeOf w hs,hl,hst]

theorem run_newVar (t : TypeId) (v : Value) : (newVar t v).run P w=.ok ⟨w.heap.size,0,none⟩ (w.alloc (.cells v.cells t)):=by
  simp [newVar,newRow]

theorem run_alloc {t : TypeId} {z : Value} (h : (P.info? t).bind (·.zero)=some z) :
    (Instr.alloc t true (.tuple #[])).run P w=.ok (.pointer (some ⟨w.heap.size,0,none⟩)) (w.alloc (.cells z.cells t)):=by
  simp [Instr.alloc,run_zeroValue w h,run_newVar]

theorem run_box (t : TypeId) (v : Value) : (Instr.box t v).run P w=.ok (.pointer (some ⟨w.heap.size,0,none⟩)) (w.alloc (.cells v.cells t)):=by
  simp [Instr.box,run_newVar]

theorem run_part {t : TypeId} {d : TypeDesc} {n : Nat} (hd : P.underlying t=some d) (hs : size? P t=some n) (cs : Array Value) (off : Nat) (hfit : off+n≤cs.size) (hag : isAggB P t=false→n=1) :
    (part t cs off).run P w=.ok (packV (isAggB P t) ((cs.toList.drop off).take n)) w:=by
  simp only [part,Sem.run_bind,run_isAgg w hd,Result.andThen_ok]
  cases ha : isAggB P t with
  | true =>
    simp only [if_true,Sem.run_bind,run_sizeOf w hs,Result.andThen_ok,packV]
    have e : cs.extract off (off+n)=((cs.toList.drop off).take n).toArray:=by
      apply Array.ext'
      simp [Array.toList_extract,List.extract_eq_take_drop]
    rw [e]
    rfl
  | false =>
    have h1:=hag ha
    subst h1
    have hlt : off < cs.size:=by omega
    have e : (cs.toList.drop off).take 1=[cs[off]]:=by
      rw [List.drop_eq_getElem_cons (by simpa using hlt)]
      simp
    simp [packV,e,hlt]

/-! ### a field's address,an element's -/
theorem run_fieldAt {t : TypeId} {fs : Array Field} (hu : P.underlying t=some (.struct fs)) {i : Nat} {f : Field} (hf : fs[i]?=some f) {n : Nat} (hs : size? P f.type=some (n+1)) (b o : Nat) :
    (Instr.fieldAt t (.pointer (some ⟨b,o,none⟩)) i).run P w=.ok (.pointer (some ⟨b,o+f.offset,none⟩)) w:=by
  simp [Instr.fieldAt,run_underlying hu,hf,Instr.sureAddr,fieldPlace,run_sizeOf w hs,addr_add]

theorem run_indexAt {t e : TypeId} (hu : P.underlying t=some (.slice e)) {n : Nat} (hs : size? P e=some n) (b o len cap : Nat) (k : IntKind) (i : Int) (h0 : 0≤i) (h1 : i < len) :
    (Instr.indexAt t (.slice (some ⟨b,o,none⟩) len cap) (.int k i)).run P w=.ok (.pointer (some ⟨b,o+i.toNat * n,none⟩)) w:=by
  simp [Instr.indexAt,asIntOf,run_underlying hu,h0,h1,run_sizeOf w hs,addr_add]

/-! ### to build -/
theorem foldl_set (off : Nat) : ∀ (vs : List Value) (k : Nat) (cs : Array Value),off+k+vs.length≤cs.size →
    ((vs.zipIdx k).foldl (fun (cs : Array Value) (x : Value × Nat) => cs.setIfInBounds (off+x.2) x.1) cs).toList=cs.toList.take (off+k)++vs++cs.toList.drop (off+k+vs.length)
  | [],k,cs,_ => by simp
  | v :: vs, k, cs, h => by
    simp only [List.length_cons] at h
    rw [List.zipIdx_cons,List.foldl_cons,foldl_set off vs (k+1) (cs.setIfInBounds (off+k) v) (by simp; omega)]
    have hk : off+k < cs.toList.length:=by simp; omega
    simp only [Array.toList_setIfInBounds,List.length_cons]
    have e1 : (cs.toList.set (off+k) v).take (off+(k+1))=cs.toList.take (off+k)++[v]:=by
      rw [show off+(k+1)=off+k+1 by omega,List.take_succ_eq_append_getElem (by simpa using hk),List.take_set_of_le (Nat.le_refl _)]
      simp
    have e2 : (cs.toList.set (off+k) v).drop (off+(k+1)+vs.length)=cs.toList.drop (off+k+(vs.length+1)):=by
      rw [List.drop_set_of_lt (by omega),show off+(k+1)+vs.length=off+k+(vs.length+1) by omega]
    rw [e1,e2]
    simp

theorem fill_cons (place : Nat→Option (Nat × Nat)) (cells : Array Value) (i : Nat) (v : Value) (rest : List (Nat × Value)) (off n : Nat) (hp : place i=some (off,n)) (hl : v.cells.size=n) (hfit : off+n≤cells.size) :
    Instr.fill place cells ((i,v) :: rest)=Instr.fill place (cells.toList.take off++v.cells.toList++cells.toList.drop (off+n)).toArray rest:=by
  have hf:=foldl_set off v.cells.toList 0 cells (by simpa [hl] using hfit)
  simp only [Nat.add_zero,Array.length_toList,hl] at hf
  simp only [Instr.fill,hp,hl]
  rw [if_neg (by simp; omega)]
  congr 1
  apply Array.ext'
  rw [← hf,← Array.foldl_toList,Array.toList_zipIdx]

theorem fill_rows (n : Nat) : ∀ (vs : List Value) (k : Nat) (cells : Array Value),(∀ v∈vs,v.cells.size=n)→(k+vs.length) * n≤cells.size →
    Instr.fill (fun i => some (i * n,n)) cells ((vs.zipIdx k).map fun x => (x.2,x.1))=some (cells.toList.take (k * n)++vs.flatMap (·.cells.toList)++cells.toList.drop ((k+vs.length) * n)).toArray
  | [],k,cells,_,_ => by simp [Instr.fill]
  | v :: vs, k, cells, hv, hfit => by
    have hn:=hv v (by simp)
    simp only [List.length_cons] at hfit
    have hfit' : k * n+n≤cells.size:=by
      have : (k+1) * n≤(k+(vs.length+1)) * n:=Nat.mul_le_mul_right _ (by omega)
      rw [Nat.add_mul,Nat.one_mul] at this
      omega
    rw [List.zipIdx_cons,List.map_cons,fill_cons _ cells k v _ (k * n) n rfl hn hfit',
      fill_rows n vs (k+1) _ (fun u hu => hv u (by simp [hu])) (by
        simp only [List.size_toArray,List.length_append,List.length_take,List.length_drop,Array.length_toList,hn]
        have : (k+1+vs.length) * n=(k+(vs.length+1)) * n:=by congr 1; omega
        rw [this]
        omega)]
    have hl : (cells.toList.take (k * n)++v.cells.toList).length=(k+1) * n:=by
      simp only [List.length_append,List.length_take,Array.length_toList,hn,Nat.add_mul,Nat.one_mul]
      omega
    have e1 : (cells.toList.take (k * n)++v.cells.toList++cells.toList.drop (k * n+n)).take ((k+1) * n)=cells.toList.take (k * n)++v.cells.toList:=by
      rw [List.take_append_of_le_length (by omega),List.take_of_length_le (by omega)]
    have e2 : (cells.toList.take (k * n)++v.cells.toList++cells.toList.drop (k * n+n)).drop ((k+1+vs.length) * n)=cells.toList.drop ((k+(vs.length+1)) * n):=by
      have x1 : (k+1+vs.length) * n=(k+1) * n+vs.length * n:=Nat.add_mul _ _ _
      have x2 : (k+(vs.length+1)) * n=(k * n+n)+vs.length * n:=by rw [show k+(vs.length+1)=k+1+vs.length by omega,x1,Nat.add_mul k 1,Nat.one_mul]
      rw [x1,← hl,List.drop_length_add_append,List.drop_drop,x2]
    congr 1
    simp only [List.flatMap_cons,List.length_cons]
    apply Array.ext'
    show List.take ((k+1) * n) (cells.toList.take (k * n)++v.cells.toList++cells.toList.drop (k * n+n))++vs.flatMap (fun x => x.cells.toList)++List.drop ((k+1+vs.length) * n) (cells.toList.take (k * n)++v.cells.toList++cells.toList.drop (k * n+n))=_
    rw [e1,e2]
    simp [List.append_assoc]

/-! ### append -/
theorem run_lenOf_slice (a : Option Addr) (n c : Nat) : (Builtin.lenOf (.slice a n c)).run P w=.ok n w:=rfl
theorem run_lenOf_string (s : ByteArray) : (Builtin.lenOf (.string s)).run P w=.ok s.size w:=rfl

theorem run_append_far (t u ty e : TypeId) (i : TypeInfo) (z : Value) (ht : P.underlying t=some (.slice e)) (hu : (∃ e',P.underlying u=some (.slice e'))∨P.underlying u=some .string) (hi : P.info? e=some i) (hz : i.zero=some z)
    (b : Option Addr) (sLen sCap : Nat) (olds : List Value) (hold : (Builtin.firstCells i.size sLen (.slice b sLen sCap)).run P w.drew=.ok olds.toArray w.drew)
    (x : Value) (n : Nat) (news : List Value) (hn : (Builtin.lenOf x).run P w=.ok n w) (hnew : (Builtin.firstCells i.size n x).run P w.drew=.ok news.toArray w.drew)
    (hg : sCap < sLen+n) (h63 : sLen+n≤maxLen) (hby : (sLen+n) * i.bytes≤140737488355328) :
    (Builtin.append_ #[t,u] ty #[.slice b sLen sCap,x]).run P w =
      .ok (.slice (some ⟨w.heap.size,0,none⟩) (sLen+n) (grownCap w (sLen+n) sCap e))
        (w.drew.alloc (.cells (olds++news++(Builtin.zeroCells z.cells (grownCap w (sLen+n) sCap e - (sLen+n))).toList).toArray e)):=by
  have h63' : ¬ (9223372036854775807 < (sLen : Int)+(n : Int)):=by simp only [maxLen] at h63; omega
  have h48 : ¬ (281474976710656 < Builtin.nextslicecap (sLen+n) sCap * i.bytes):=by
    have:=growslice_fits hg hby
    omega
  have hn' : ¬ (sLen+n≤sCap):=by omega
  rcases hu with ⟨e',hd⟩ | hd
  · simp [Builtin.append_, run_underlying ht, run_underlying hd, sizeOf, typeInfo, zeroValue, hi, hz, hn, hn', h63', h48, Question.forced, hold, hnew, newRow, grownCap]
    congr 2
    apply Array.ext'
    simp
  · simp [Builtin.append_, run_underlying ht, run_underlying hd, sizeOf, typeInfo, zeroValue, hi, hz, hn, hn', h63', h48, Question.forced, hold, hnew, newRow, grownCap]
    congr 2
    apply Array.ext'
    simp

theorem run_append_near (t u ty e : TypeId) {be : TypeId} (i : TypeInfo) (ht : P.underlying t=some (.slice e)) (hu : (∃ e',P.underlying u=some (.slice e'))∨P.underlying u=some .string) (hi : P.info? e=some i)
    (b sLen sCap : Nat) (cur : Array Value) (hg : w.heap[b]?=some (.cells cur be (0,0)))
    (x : Value) (n : Nat) (news : List Value) (hn : (Builtin.lenOf x).run P w=.ok n w) (hnew : (Builtin.firstCells i.size n x).run P w=.ok news.toArray w) (h1 : ∀ u∈news,u.oneCell'=true)
    (hroom : sLen+n≤sCap) (hfit : sLen * i.size+news.length≤cur.size) :
    (Builtin.append_ #[t,u] ty #[.slice (some ⟨b,0,none⟩) sLen sCap,x]).run P w =
      .ok (.slice (some ⟨b,0,none⟩) (sLen+n) sCap) (w.setRow b (cur.toList.take (sLen * i.size)++news++cur.toList.drop (sLen * i.size+news.length)).toArray):=by
  have hst:=run_storeCells_at P b (sLen * i.size) be news 0 cur w hg (by simpa using hfit) h1
  simp only [Nat.add_zero] at hst
  rcases hu with ⟨e',hd⟩ | hd
  · simp [Builtin.append_,run_underlying ht,run_underlying hd,sizeOf,typeInfo,hi,hn,hroom,hnew,addr_add,hst]
  · simp [Builtin.append_,run_underlying ht,run_underlying hd,sizeOf,typeInfo,hi,hn,hroom,hnew,addr_add,hst]

theorem run_append_none (t u ty e : TypeId) (i : TypeInfo) (ht : P.underlying t=some (.slice e)) (hu : (∃ e',P.underlying u=some (.slice e'))∨P.underlying u=some .string) (hi : P.info? e=some i)
    (b : Option Addr) (sLen sCap : Nat) (x : Value) (hn : (Builtin.lenOf x).run P w=.ok 0 w) (hnew : (Builtin.firstCells i.size 0 x).run P w=.ok #[] w) (hle : sLen≤sCap) :
    (Builtin.append_ #[t,u] ty #[.slice b sLen sCap,x]).run P w=.ok (.slice b sLen sCap) w:=by
  rcases hu with ⟨e',hd⟩ | hd
  · cases b<;>simp [Builtin.append_,run_underlying ht,run_underlying hd,sizeOf,typeInfo,hi,hn,hle,hnew,storeCells]
  · cases b<;>simp [Builtin.append_,run_underlying ht,run_underlying hd,sizeOf,typeInfo,hi,hn,hle,hnew,storeCells]

theorem run_first_rows (w : World) (sz n b o cap : Nat) (vs : List Value) (hl : vs.length=n * sz) (hc : ∀ j v,vs[j]?=some v→w.cell? ⟨b,o+j,none⟩=some v) :
    (Builtin.firstCells sz n (.slice (some ⟨b,o,none⟩) n cap)).run P w=.ok vs.toArray w :=
  run_firstCells_some w sz n ⟨b,o,none⟩ n cap vs hl fun j v h => by rw [addr_add]; exact hc j v h
end
end Go.Proofs.Ytcecojdeljbjoaa.Sx
namespace Go.Proofs.Ytcecojdeljbjoaa.Sx
open Go Go.RowKit

def FR (rd : Option Nat) : Fence:={ Fence.wide with round:=rd }
theorem FR_none : FR none=Fence.wide:=rfl
theorem fr_room (rd : Option Nat) (n : Nat) : (FR rd).room n:=fun _ h => by simp [FR,Fence.wide] at h
theorem calls_fr {rd : Option Nat} {n : Nat} {P : Program} {f : FuncId} {args : Array Value} {w : World} {R : Ending→World→Prop} (h : Calls P f args w R) : CallsIn (FR rd) n P f args w R:=by
  have:=(callsIn_wide (n:=n)).2 h
  exact this
theorem calls_rf {rd : Option Nat} {n : Nat} {P : Program} {f : FuncId} {args : Array Value} {w : World} {R : Ending→World→Prop} (h : CallsIn (FR rd) n P f args w R) : Calls P f args w R:=by
  have : CallsIn Fence.wide n P f args w R:=h
  exact callsIn_wide.1 this
def Into (N : Rm) (w0 : World) (ok0 : Nat→Prop) (st' : St) (next : Act→World→Prop) : Prop:=∀ ok ρ a w,Gam N w0 ok0 st' ok ρ a w→next a w

section
variable {P : Program} {N : Rm} {w0 : World} {ok0 : Nat→Prop} {st st' : St} {ok : Nat→Prop} {ρ : Rho} {a : Act} {w w' : World}
  {next : Act→World→Prop} {Q : Exit→Act→World→Prop} {o : Oper} {rd : Option Nat}

theorem sem_at {nx : Next} (hrun : (execOp a.eval o).run P w=.ok nx w') (hnd : ∀ d,nx≠.defer d) : (o.semAt (FR rd).round a.eval).run P w=.ok nx w':=by
  rw [Oper.semAt_eq _ _ _ (fun c hc => ?_)]
  · exact hrun
  · simp only [execOp, hc, Sem.run_bind] at hrun
    cases hr : (resolve a.eval c o.type).run P w with
    | ok d w1 => rw [hr] at hrun; simp at hrun; exact hnd d hrun.1.symm
    | halt h w1 => rw [hr] at hrun; simp at hrun
theorem wp_val {v : Value} (hrun : (execOp a.eval o).run P w=.ok (.value v) w') (h : next (a.put o.dst v) w') : o.wpIn (FR rd) 0 P a w next Q:=by
  refine ⟨fun _ _ => trivial,?_⟩
  rw [sem_at hrun (fun d e => by cases e)]; exact h
theorem wp_skip' (hrun : (execOp a.eval o).run P w=.ok .skip w') (h : next (a.put o.dst undef) w') : o.wpIn (FR rd) 0 P a w next Q:=by
  refine ⟨fun _ _ => trivial,?_⟩
  rw [sem_at hrun (fun d e => by cases e)]; exact h

theorem ok_val (g : Gam N w0 ok0 st ok ρ a w) {d : Nat} (hd : o.dst=some d) (hN : N.may d) {v : Value} {l : LV} (hrun : (execOp a.eval o).run P w=.ok (.value v) w) (hl : LRep w ok ρ st.hp l v)
    (hn : Into N w0 ok0 (st.set d l) next) : o.wpIn (FR rd) 0 P a w next Q :=
  wp_val hrun (by rw [hd]; exact hn _ _ _ _ (g.put hN hl))

/-! ### operands -/
theorem cV_ok {t : TypeId} {v : Value} {x : TV} (h : cV P t v=some x) : TRep w ok x v:=by
  unfold cV at h
  split at h
  · obtain rfl:=Option.some.inj h; simp only [TRep]
  · obtain rfl:=Option.some.inj h; simp only [TRep]
  · obtain rfl:=Option.some.inj h; simp only [TRep]
  · obtain rfl:=Option.some.inj h; simp only [TRep]
  · unfold cNil at h
    split at h
    · obtain rfl := Option.some.inj h
      simp only [TRep]
      exact ⟨none,0,0,rfl,rfl,Nat.le_refl _,Nat.zero_le _,fun _ _ => rfl,.inl trivial⟩
    · cases h
  · cases h

theorem rd_ok (g : Gam N w0 ok0 st ok ρ a w) {t : TypeId} {x : Operand} {y : X} (h : cX P t x=some y) : LRep w ok ρ st.hp (y.rd st.env) (a.eval x):=by
  cases x with
  | tmp i => obtain rfl:=Option.some.inj h; exact g.env _
  | func f =>
    obtain rfl:=Option.some.inj h
    simp only [X.rd,LRep,Act.eval]
    exact ⟨#[],rfl,by simp only [LReps]⟩
  | global i => cases h
  | const v =>
    simp only [cX] at h
    split at h
    · rename_i hu
      obtain rfl:=Option.some.inj h
      simp only [X.rd,LRep,Act.eval]
      unfold isUndef at hu
      split at hu
      · rename_i vs
        obtain rfl:=Array.isEmpty_iff.1 hu
        exact ⟨#[],rfl,by simp only [LReps]⟩
      · cases hu
    · split at h
      · obtain rfl := Option.some.inj h
        simp only [X.rd,LRep]
      cases hv : cV P t v with
      | none => rw [hv] at h; cases h
      | some z =>
        rw [hv] at h
        obtain rfl:=Option.some.inj h
        simp only [X.rd,LRep,Act.eval]
        exact cV_ok hv

theorem rds_ok (g : Gam N w0 ok0 st ok ρ a w) : ∀ {ts : List TypeId} {xs : List Operand} {ys : List X},cXs P ts xs=some ys→LReps w ok ρ st.hp false (rds st.env ys) (xs.map a.eval)
  | [],[],ys,h => by simp only [cXs,Option.some.injEq] at h; subst h; simp only [rds,LReps,List.map_nil]
  | [],_ :: _,ys,h => by simp only [cXs] at h; cases h
  | _ :: _,[],ys,h => by simp only [cXs] at h; cases h
  | t :: ts, x :: xs, ys, h => by
    simp only [cXs] at h
    split at h
    · rename_i y r hy hr
      obtain rfl:=Option.some.inj h
      simp only [rds,LReps,List.map_cons]
      exact ⟨_,_,rfl,by simp,rd_ok g hy,rds_ok g hr⟩
    · cases h

/-! ### shapes -/
theorem lrep_v {t : TV} {v : Value} (h : TRep w ok t v) : LRep w ok ρ st.hp (.v t) v:=by simpa only [LRep] using h
theorem trep_bool {b : Bool} : TRep w ok (.bool b) (.bool b):=by simp only [TRep]
theorem trep_int {k : IntKind} {n : Int} : TRep w ok (.int k n) (.int k n):=by simp only [TRep]
theorem trep_str {z : ByteArray} : TRep w ok (.str z) (.string z):=by simp only [TRep]
theorem lv_int {k : IntKind} {n : Int} {x : Value} (h : LRep w ok ρ st.hp (.v (.int k n)) x) : x=.int k n:=by simpa only [LRep,TRep] using h
theorem lv_bool {b : Bool} {x : Value} (h : LRep w ok ρ st.hp (.v (.bool b)) x) : x=.bool b:=by simpa only [LRep,TRep] using h
theorem lv_str {s : ByteArray} {x : Value} (h : LRep w ok ρ st.hp (.v (.str s)) x) : x=.string s:=by simpa only [LRep,TRep] using h

theorem one_of_trep {t : TV} {v : Value} (h : TRep w ok t v) (ha : ∀ cs,t≠.agg cs) (ht : ∀ cs,t≠.tup cs) : v.oneCell'=true∧v.cells=#[v]:=by
  cases t with
  | agg cs => exact absurd rfl (ha cs)
  | tup cs => exact absurd rfl (ht cs)
  | int k n => simp only [TRep] at h; subst h; exact ⟨rfl,rfl⟩
  | bool b => simp only [TRep] at h; subst h; exact ⟨rfl,rfl⟩
  | str s => simp only [TRep] at h; subst h; exact ⟨rfl,rfl⟩
  | nilfn => simp only [TRep] at h; subst h; exact ⟨rfl,rfl⟩
  | unk => simp only [TRep] at h; exact h
  | sl fl sz rows => simp only [TRep] at h; obtain ⟨a,len,cap,rfl,_⟩:=h; exact ⟨rfl,rfl⟩
  | pc cs => simp only [TRep] at h; obtain ⟨b,o,rfl,_⟩:=h; exact ⟨rfl,rfl⟩
  | fn f cs => simp only [TRep] at h; obtain ⟨b,rfl,_⟩:=h; exact ⟨rfl,rfl⟩

theorem cells_ok {l : LV} {x : Value} (h : LRep w ok ρ st.hp l x) (hne : l.cells≠[]) : LReps w ok ρ st.hp true l.cells x.cells.toList:=by
  have single : ∀ {l : LV} {x : Value},LRep w ok ρ st.hp l x→x.oneCell'=true→x.cells=#[x]→LReps w ok ρ st.hp true [l] x.cells.toList:=by
    intro l x h h1 h2
    rw [h2]
    simp only [LReps]
    exact ⟨x,[],rfl,fun _ => h1,h,rfl⟩
  cases l with
  | u => exact absurd rfl hne
  | tup vs => exact absurd rfl hne
  | agg cs =>
    simp only [LRep] at h
    obtain ⟨vs,rfl,h2⟩:=h
    exact h2
  | v t =>
    cases t with
    | agg cs => exact absurd rfl hne
    | unk => exact absurd rfl hne
    | tup cs => exact absurd rfl hne
    | int k n => have:=one_of_trep (w:=w) (ok:=ok) (by simpa only [LRep] using h) (by simp) (by simp); exact single h this.1 this.2
    | bool b => have:=one_of_trep (w:=w) (ok:=ok) (by simpa only [LRep] using h) (by simp) (by simp); exact single h this.1 this.2
    | str s => have:=one_of_trep (w:=w) (ok:=ok) (by simpa only [LRep] using h) (by simp) (by simp); exact single h this.1 this.2
    | nilfn => have:=one_of_trep (w:=w) (ok:=ok) (by simpa only [LRep] using h) (by simp) (by simp); exact single h this.1 this.2
    | sl fl sz rows => have:=one_of_trep (w:=w) (ok:=ok) (by simpa only [LRep] using h) (by simp) (by simp); exact single h this.1 this.2
    | pc cs => have:=one_of_trep (w:=w) (ok:=ok) (by simpa only [LRep] using h) (by simp) (by simp); exact single h this.1 this.2
    | fn f cs => have:=one_of_trep (w:=w) (ok:=ok) (by simpa only [LRep] using h) (by simp) (by simp); exact single h this.1 this.2
  | p id off =>
    have h':=h
    simp only [LRep] at h'
    obtain ⟨b,rfl⟩:=h'.shape
    exact single h rfl rfl
  | pe id row off =>
    have h':=h
    simp only [LRep] at h'
    obtain ⟨b,rfl⟩:=h'.shape
    exact single h rfl rfl
  | s id off len =>
    have h':=h
    simp only [LRep] at h'
    obtain ⟨b,cap,rfl,_⟩:=h'.shape
    exact single h rfl rfl
  | fn f cs =>
    have h':=h
    simp only [LRep] at h'
    obtain ⟨vs,rfl,_⟩:=h'
    exact single h rfl rfl
  | m id =>
    have h':=h
    simp only [LRep] at h'
    obtain ⟨b,rfl⟩:=h'.shape
    exact single h rfl rfl

theorem setM_some {d : Nat} {m : Option LV} (h : setM st d m=some st') : ∃ l,m=some l∧st'=st.set d l:=by
  cases m with
  | none => cases h
  | some l => exact ⟨l,rfl,(Option.some.inj h).symm⟩
theorem setV_some {d : Nat} {m : Option TV} (h : setV st d m=some st') : ∃ t,m=some t∧st'=st.set d (.v t):=by
  cases m with
  | none => cases h
  | some t => exact ⟨t,rfl,(Option.some.inj h).symm⟩
theorem mkO_some {d id : Nat} {ob : Ob} {l : LV} (h : mkO d id ob l st=some st') : st.hp id=none∧st'=({ st with hp:=upd st.hp id (some ob) } : St).set d l:=by
  unfold mkO at h
  cases hi : st.hp id with
  | none => rw [hi] at h; exact ⟨rfl,(Option.some.inj h).symm⟩
  | some o => rw [hi] at h; cases h

theorem ok_new (g : Gam N w0 ok0 st ok ρ a w) {d : Nat} (hd : o.dst=some d) (hN : N.may d) {id : Nat} {ob : Ob} {l : LV} (hm : mkO d id ob l st=some st') {v : Value} {w1 : World} {cur : Array Value} {ty : TypeId} (K : Nat)
    (hrun : (execOp a.eval o).run P w=.ok (.value v) (w1.alloc (.cells cur ty))) (hw1 : w1=w∨w1=w.drew)
    (ho : ORep (w1.alloc (.cells cur ty)) ok (upd ρ id (some (w.heap.size,K))) (upd st.hp id (some ob)) id ob)
    (hl : LRep (w1.alloc (.cells cur ty)) ok (upd ρ id (some (w.heap.size,K))) (upd st.hp id (some ob)) l v)
    (hn : Into N w0 ok0 st' next) : o.wpIn (FR rd) 0 P a w next Q:=by
  obtain ⟨hid,rfl⟩:=mkO_some hm
  have hsz : w1.heap.size=w.heap.size:=by rcases hw1 with rfl | rfl<;>rfl
  have g1 : Gam N w0 ok0 st ok ρ a w1:=by
    rcases hw1 with rfl | rfl
    · exact g
    · exact g.drew
  refine wp_val hrun ?_
  rw [hd]
  rw [← hsz] at ho hl
  exact hn _ _ _ _ ((g1.new hid cur ty K ho).put hN hl)

theorem same_alloc (g : Gam N w0 ok0 st ok ρ a w) (x : Obj) : Same w (w.alloc x) ok ok:=fun b hb => ⟨Below.heap_alloc w x b (g.free b hb).1,hb⟩
theorem same_drew_alloc (g : Gam N w0 ok0 st ok ρ a w) (x : Obj) : Same w (w.drew.alloc x) ok ok:=fun b hb => ⟨Below.heap_alloc w.drew x b (g.free b hb).1,hb⟩

theorem ok_var (g : Gam N w0 ok0 st ok ρ a w) {d : Nat} (hd : o.dst=some d) (hN : N.may d) {id : Nat} {cs : List LV} (hm : mkO d id (.var false cs) (.p id 0) st=some st') {cur : Array Value} {ty : TypeId}
    (hrun : (execOp a.eval o).run P w=.ok (.value (.pointer (some ⟨w.heap.size,0,none⟩))) (w.alloc (.cells cur ty)))
    (hcs : LReps w ok ρ st.hp true cs cur.toList) (hn : Into N w0 ok0 st' next) : o.wpIn (FR rd) 0 P a w next Q:=by
  have hid:=(mkO_some hm).1
  refine ok_new g hd hN hm 0 hrun (.inl rfl) ?_ ?_ hn
  · have hlen : cur.toList.length = cs.length := hcs.length
    refine ⟨w.heap.size,0,cur,ty,upd_same _ _ _,heap_alloc_new w _,Nat.zero_le _,by simp only [Array.length_toList] at hlen; omega,?_⟩
    rw [← hlen,List.take_length]
    exact hcs.to (same_alloc g _) (later_new hid _ _)
  · simp only [LRep, PRep, upd_same]
    exact ⟨_,_,rfl,rfl⟩

/-! ### the operations -/
theorem op_mv (g : Gam N w0 ok0 st ok ρ a w) {d : Nat} (hd : o.dst=some d) (hN : N.may d) {t : TypeId} {x : Operand} {y : X} (ho : o.op=.move x∨o.op=.assign x) (hy : cX P t x=some y)
    (hn : Into N w0 ok0 (st.set d (y.rd st.env)) next) : o.wpIn (FR rd) 0 P a w next Q:=by
  refine ok_val g hd hN (v:=a.eval x) ?_ (rd_ok g hy) hn
  rcases ho with ho | ho<;>simp [execOp,ho]

theorem op_pick (g : Gam N w0 ok0 st ok ρ a w) {d : Nat} (hd : o.dst=some d) (hN : N.may d) {t : TypeId} {c x y : Operand} {c' x' y' : X} (ho : o.op=.pick c x y) (hc : cX P t c=some c') (hx : cX P t x=some x') (hy : cX P t y=some y')
    (he : pickK st d (x'.rd st.env) (y'.rd st.env) (c'.rd st.env)=some st') (hn : Into N w0 ok0 st' next) : o.wpIn (FR rd) 0 P a w next Q:=by
  have h:=rd_ok g hc
  generalize hl : c'.rd st.env=l at he h
  unfold pickK at he
  split at he
  · have hb := lv_bool h
    split at he
    · rename_i e
      subst e
      obtain rfl:=Option.some.inj he
      refine ok_val g hd hN (v:=a.eval x) ?_ (rd_ok g hx) hn
      simp [execOp,ho,hb,asBool]
    · rename_i e
      obtain rfl:=Option.some.inj he
      refine ok_val g hd hN (v:=a.eval y) ?_ (rd_ok g hy) hn
      simp [execOp,ho,hb,asBool,e]
  · cases he

theorem cV_one {t : TypeId} {v : Value} {x : TV} (h : cV P t v=some x) : v.oneCell'=true:=by
  unfold cV at h
  split at h<;>first | rfl | cases h
theorem cVs_ok : ∀ {ts : List TypeId} {vs : List Value} {zs : List TV},cVs P ts vs=some zs→LReps w ok ρ st.hp true (liftV zs) vs
  | [],[],zs,h => by simp only [cVs,Option.some.injEq] at h; subst h; simp only [liftV,LReps]
  | [],_ :: _,zs,h => by simp only [cVs] at h; cases h
  | _ :: _,[],zs,h => by simp only [cVs] at h; cases h
  | t :: ts, v :: vs, zs, h => by
    simp only [cVs] at h
    split at h
    · rename_i x xs hx hxs
      obtain rfl:=Option.some.inj h
      simp only [liftV,LReps]
      exact ⟨v,vs,rfl,fun _ => cV_one hx,by simp only [LRep]; exact cV_ok hx,cVs_ok hxs⟩
    · cases h
theorem cLs_ok : ∀ {ts : List TypeId} {vs : List Value} {zs : List LV},cLs P ts vs=some zs→LReps w ok ρ st.hp true zs vs
  | [],[],zs,h => by simp only [cLs,Option.some.injEq] at h; subst h; simp only [LReps]
  | [],_ :: _,zs,h => by simp only [cLs] at h; cases h
  | _ :: _,[],zs,h => by simp only [cLs] at h; cases h
  | t :: ts, v :: vs, zs, h => by
    simp only [cLs] at h
    split at h
    · rename_i x xs hx hxs
      obtain rfl:=Option.some.inj h
      simp only [LReps]
      split at hx
      · rename_i hn
        obtain rfl:=Option.some.inj hx
        refine ⟨v,vs,rfl,fun _ => ?_,by simp only [LRep],cLs_ok hxs⟩
        unfold isNilP at hn
        split at hn
        · rfl
        · rfl
        · cases hn
      · simp only [Option.map_eq_some_iff] at hx
        obtain ⟨y,hy,rfl⟩:=hx
        exact ⟨v,vs,rfl,fun _ => cV_one hy,by simp only [LRep]; exact cV_ok hy,cLs_ok hxs⟩
    · cases h
theorem zeroL_some {t : TypeId} {zs : List LV} (h : zeroL P t=some zs) : ∃ z,(P.info? t).bind (·.zero)=some z∧cLs P (leaves P 20 t) z.cells.toList=some zs:=by
  unfold zeroL at h
  split at h
  · rename_i z hz; exact ⟨z,hz,h⟩
  · cases h
theorem zeroT_some {t : TypeId} {zs : List TV} (h : zeroT P t=some zs) : ∃ z,(P.info? t).bind (·.zero)=some z∧cVs P (leaves P 20 t) z.cells.toList=some zs:=by
  unfold zeroT at h
  split at h
  · rename_i z hz; exact ⟨z,hz,h⟩
  · cases h

theorem op_alloc (g : Gam N w0 ok0 st ok ρ a w) {d : Nat} (hd : o.dst=some d) (hN : N.may d) {e : TypeId} {zs : List TV} (ho : o.op=.alloc e) (hz : zeroT P e=some zs) {lo : Nat}
    (he : mkO d (lo+d) (.var false (liftV zs)) (.p (lo+d) 0) st=some st') (hn : Into N w0 ok0 st' next) : o.wpIn (FR rd) 0 P a w next Q:=by
  obtain ⟨z,h1,h2⟩:=zeroT_some hz
  refine ok_var g hd hN he (cur:=z.cells) (ty:=e) ?_ (cVs_ok h2) hn
  simp [execOp,ho,run_alloc w h1]

theorem op_box (g : Gam N w0 ok0 st ok ρ a w) {d : Nat} (hd : o.dst=some d) (hN : N.may d) {e : TypeId} {x : Operand} {y : X} {n : Nat} (ho : o.op=.box e x) (hy : cX P e x=some y) {lo : Nat}
    (he : boxK lo st d (n+1) (y.rd st.env).cells=some st') (hn : Into N w0 ok0 st' next) : o.wpIn (FR rd) 0 P a w next Q:=by
  unfold boxK at he
  split at he
  · rename_i hlen
    refine ok_var g hd hN he (cur:=(a.eval x).cells) (ty:=e) ?_ (cells_ok (rd_ok g hy) (fun h => by rw [h] at hlen; cases hlen)) hn
    simp [execOp,ho,run_box w]
  · cases he

theorem packL_ok {ag : Bool} {cs : List LV} {l : LV} (h : packL ag cs=some l) {vs : List Value} (hv : LReps w ok ρ st.hp true cs vs) : LRep w ok ρ st.hp l (packV ag vs):=by
  cases ag with
  | true =>
    simp only [packL,Option.some.injEq] at h
    subst h
    simp only [LRep,packV,if_true]
    exact ⟨_,rfl,by simpa using hv⟩
  | false =>
    match cs,h with
    | [c], h =>
      simp only [packL,Option.some.injEq] at h
      subst h
      simp only [LReps] at hv
      obtain ⟨v,r,rfl,_,h3,rfl⟩:=hv
      simpa [packV] using h3

theorem LReps.sub {one : Bool} {cs : List LV} {vs : List Value} (h : LReps w ok ρ st.hp one cs vs) (off n : Nat) : LReps w ok ρ st.hp one ((cs.drop off).take n) ((vs.drop off).take n):=by
  refine LReps.of (by simp [h.length]) fun i l hi => ?_
  rw [List.getElem?_take] at hi
  split at hi
  · rename_i hin
    rw [List.getElem?_drop] at hi
    obtain ⟨v,h1,h2,h3⟩:=h.get _ _ hi
    exact ⟨v,by rw [List.getElem?_take,if_pos hin,List.getElem?_drop]; exact h1,h2,h3⟩
  · cases hi

theorem cut_ok {ag : Bool} {cs : List LV} {off n : Nat} {l : LV} (h : cut ag cs off n=some l) {vs : List Value} (hv : LReps w ok ρ st.hp true cs vs) :
    off+n≤vs.length∧LRep w ok ρ st.hp l (packV ag ((vs.drop off).take n)):=by
  unfold cut at h
  split at h
  · rename_i hle
    exact ⟨by rw [hv.length]; exact hle,packL_ok h (hv.sub off n)⟩
  · cases h

theorem trep_cells {b : Nat} : ∀ {cells : List TV} {off : Nat},CellsRep w ok b cells off→∃ vs : List Value,vs.length=cells.length∧LReps w ok ρ st.hp true (liftV cells) vs∧(∀ j v,vs[j]?=some v→w.cell? ⟨b,off+j,none⟩=some v)
  | [],off,_ => ⟨[],rfl,by simp only [liftV,LReps],by simp⟩
  | c :: cs, off, h => by
    simp only [CellsRep] at h
    obtain ⟨⟨v,h1,h2,h3⟩,h4⟩:=h
    obtain ⟨vs,g1,g2,g3⟩:=trep_cells h4
    refine ⟨v :: vs,by simp [g1],?_,?_⟩
    · simp only [liftV, LReps]
      exact ⟨v,vs,rfl,fun _ => h2,by simp only [LRep]; exact h3,g2⟩
    · intro j u hj
      cases j with
      | zero => simp only [List.getElem?_cons_zero,Option.some.injEq] at hj; subst hj; exact h1
      | succ j => rw [show off+(j+1)=off+1+j by omega]; exact g3 j u (by simpa using hj)

theorem liftV_drop : ∀ (cs : List TV) (k : Nat),liftV (cs.drop k)=(liftV cs).drop k
  | [],k => by simp [liftV]
  | c :: cs,0 => rfl
  | c :: cs,k+1 => by simpa [liftV] using liftV_drop cs k
theorem liftV_take : ∀ (cs : List TV) (k : Nat),liftV (cs.take k)=(liftV cs).take k
  | [],k => by simp [liftV]
  | c :: cs,0 => rfl
  | c :: cs,k+1 => by simpa [liftV] using liftV_take cs k
theorem liftV_length : ∀ cs : List TV,(liftV cs).length=cs.length
  | [] => rfl
  | c :: cs => by simp [liftV,liftV_length cs]

theorem loadR_ok {ag : Bool} {off n : Nat} {r : List TV} {l : LV} (h : loadR ag off n (some r)=some l) {b o' : Nat} (hr : CellsRep w ok b r o') :
    ∃ vs : List Value,vs.length=n∧(∀ j v,vs[j]?=some v→w.cell? ⟨b,o'+off+j,none⟩=some v)∧LRep w ok ρ st.hp l (packV ag vs):=by
  simp only [loadR] at h
  split at h
  · rename_i hle
    obtain ⟨vs,h1,h2,h3⟩:=trep_cells (ρ:=ρ) (st:=st) ((hr.drop off).take n)
    exact ⟨vs,by rw [h1]; simp; omega,h3,packL_ok h h2⟩
  · cases h

theorem loadL_ok (g : Gam N w0 ok0 st ok ρ a w) {n : Nat} {ag : Bool} {l r : LV} (h : loadL st.hp n ag l=some r) {x : Value} (hx : LRep w ok ρ st.hp l x) :
    ∃ b o' vs,x=.pointer (some ⟨b,o',none⟩)∧vs.length=n∧(∀ j v,vs[j]?=some v→w.cell? ⟨b,o'+j,none⟩=some v)∧LRep w ok ρ st.hp r (packV ag vs):=by
  unfold loadL at h
  split at h
  · rename_i id off
    simp only [LRep] at hx
    unfold loadO at h
    split at h
    · rename_i cs hid
      obtain ⟨b,K,h1,rfl⟩ : ∃ b K,ρ id=some (b,K)∧x=.pointer (some ⟨b,off,none⟩):=by rw [hid] at hx; exact hx
      obtain ⟨b',K',cur,ty,h2,h3,_,_,h4⟩:=g.obj id _ hid
      rw [h1] at h2
      obtain ⟨rfl,rfl⟩ : b=b'∧K=K':=by simpa using h2
      obtain ⟨hle,hr⟩:=cut_ok h h4
      refine ⟨b,off,((cur.toList.take cs.length).drop off).take n,rfl,by rw [List.length_take,List.length_drop]; omega,fun j v hj => ?_,hr⟩
      rw [List.getElem?_take] at hj
      split at hj
      · rw [List.getElem?_drop, List.getElem?_take] at hj
        split at hj
        · rw [cell_of_row w b (off + j) cur ty (0, 0) h3]
          simpa using hj
        · cases hj
      · cases hj
    · cases h
  · rename_i id row off
    simp only [LRep] at hx
    unfold loadE at h
    split at h
    · rename_i e sz rows hid
      obtain ⟨b,K,h1,rfl⟩ : ∃ b K,ρ id=some (b,K)∧x=.pointer (some ⟨b,row * sz+off,none⟩):=by rw [hid] at hx; exact hx
      rcases g.obj id _ hid with ⟨h2,_⟩ | ⟨b',K',cur,h2,h3,h4,h5,h6,h7⟩
      · rw [h1] at h2; cases h2
      · rw [h1] at h2
        obtain ⟨rfl,rfl⟩ : b=b'∧K=K':=by simpa using h2
        cases hrow : rows[row]? with
        | none => rw [hrow] at h; cases h
        | some q =>
          rw [hrow] at h
          obtain ⟨_,hq⟩:=h7.get row q hrow
          obtain ⟨vs,k1,k2,k3⟩:=loadR_ok (ρ:=ρ) (st:=st) h hq
          exact ⟨b,row * sz+off,vs,rfl,k1,by simpa using k2,k3⟩
    · cases h
  · rename_i cs
    simp only [LRep,TRep] at hx
    obtain ⟨b,o',rfl,_,h3⟩:=hx
    obtain ⟨vs,k1,k2,k3⟩:=loadR_ok (ρ:=ρ) (st:=st) h h3
    exact ⟨b,o',vs,rfl,k1,by simpa using k2,k3⟩
  · cases h

theorem op_load (g : Gam N w0 ok0 st ok ρ a w) {d : Nat} (hd : o.dst=some d) (hN : N.may d) {t t' : TypeId} {x : Operand} {y : X} {n : Nat} (ho : o.op=.load t x) (hy : cX P t' x=some y) (hs : size? P t=some n) (hu : ∃ k,P.underlying t=some k) (h1 : isAggB P t=false→n=1)
    (he : setM st d (loadL st.hp n (isAggB P t) (y.rd st.env))=some st') (hn : Into N w0 ok0 st' next) : o.wpIn (FR rd) 0 P a w next Q:=by
  obtain ⟨l,hl,rfl⟩:=setM_some he
  obtain ⟨b,o',vs,hx,k1,k2,k3⟩:=loadL_ok g hl (rd_ok g hy)
  obtain ⟨k,hk⟩:=hu
  refine ok_val g hd hN (v:=packV (isAggB P t) vs) ?_ k3 hn
  have:=run_loadVar (P:=P) w hk hs b o' vs k1 h1 k2
  simp [execOp,ho,Instr.loadAt,hx,Instr.sureAddr,this]
end
end Go.Proofs.Ytcecojdeljbjoaa.Sx
