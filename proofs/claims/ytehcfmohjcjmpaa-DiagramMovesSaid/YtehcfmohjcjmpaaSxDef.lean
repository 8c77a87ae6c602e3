/- An evaluator for the part of the code that this seat's functions use: trees of values for what came in, named objects for what a call makes itself. -/
import Derived.LoadGo2
import Derived.WalkKit
namespace Go.Proofs.Ytehcfmohjcjmpaa.Sx
open Go

/-- How much a slice may grow in place: 'shared' not; 'own' its block is nobody else's; 'tight' it is at its capacity. -/
inductive Fl where
  | shared
  | own (e : TypeId)
  | tight (e : TypeId)

/-- A value as a tree. -/
inductive TV where
  | int (k : IntKind) (n : Int)
  | bool (b : Bool)
  | str (s : ByteArray)
  | sl (fl : Fl) (sz : Nat) (rows : List (List TV))
  | agg (cells : List TV)
  | tup (vs : List TV)
  | pc (cells : List TV)
  | fn (f : FuncId) (caps : List TV)
  | nilfn

/-- A value that may name objects of the call's own. -/
inductive LV where
  | u
  | v (t : TV)
  | p (id off : Nat)
  | pe (id row off : Nat)
  | s (id off len : Nat)
  | agg (cells : List LV)
  | tup (vs : List LV)
  | fn (f : FuncId) (caps : List LV)
  | m (id : Nat)

inductive Ob where
  | var (fz : Bool) (cells : List LV)
  | arr (fz : Bool) (e : TypeId) (sz : Nat) (rows : List (List TV))
  | map (fz kag vag : Bool) (ents : List (List TV × List TV))
  | dead

def upd {α : Type} (f : Nat → α) (i : Nat) (x : α) : Nat → α := fun j => if j = i then x else f j
@[go_sem] theorem upd_apply {α : Type} (f : Nat → α) (i : Nat) (x : α) (j : Nat) : upd f i x j = if j = i then x else f j := rfl

abbrev Hp := Nat → Option Ob
structure St where
  env : Nat → LV
  hp : Hp

def e0 : Nat → LV := fun _ => .u
def h0 : Hp := fun _ => none
@[go_sem] theorem e0_apply (i : Nat) : e0 i = .u := rfl
@[go_sem] theorem h0_apply (i : Nat) : h0 i = none := rfl

inductive X where
  | t (i : Nat)
  | c (l : LV)
  | fn (f : FuncId)

def X.rd (e : Nat → LV) : X → LV
  | .t i => e i
  | .c l => l
  | .fn f => .fn f []

def rds (e : Nat → LV) : List X → List LV
  | [] => []
  | x :: xs => x.rd e :: rds e xs

/-- a leaf of a type whose values are compared by what they are -/
inductive Lk where
  | i | b | z

inductive IOp where
  | mv (d : Nat) (x : X)
  | pick (d : Nat) (c a b : X)
  | alloc (d : Nat) (zs : List LV)
  | box (d : Nat) (x : X) (n : Nat)
  | build (d : Nat) (zs : List LV) (parts : List (Nat × Nat × X))
  | bslice (d : Nat) (e : TypeId) (sz : Nat) (parts : List X)
  | load (d : Nat) (a : X) (n : Nat) (ag : Bool)
  | store (a x : X) (n : Nat)
  | nchk (d : Nat) (x : X)
  | bin (d : Nat) (bt : Bool) (op : BinOp) (x y : X)
  | eqs (d : Nat) (neg : Bool) (ks : List Lk) (x y : X)
  | un (d : Nat) (op : UnOp) (x : X)
  | conv (d : Nat) (k : IntKind) (x : X)
  | fld (d : Nat) (x : X) (off n : Nat) (ag : Bool)
  | faddr (d : Nat) (a : X) (off : Nat)
  | iaddr (d : Nat) (x i : X) (sz : Nat)
  | aaddr (d : Nat) (x i : X) (len sz : Nat)
  | ixa (d : Nat) (x i : X) (len sz : Nat) (ag : Bool)
  | ixs (d : Nat) (x i : X)
  | slice (d : Nat) (x : X) (lo hi mx : Option X) (e : TypeId) (sz : Nat)
  | len (d : Nat) (z : Bool) (x : X)
  | cap (d : Nat) (x : X)
  | append (d : Nat) (x y : X) (e : TypeId) (sz bytes : Nat)
  | copy (d : Nat) (x y : X) (sz : Nat)
  | b2s (d : Nat) (x : X)
  | ext (d : Nat) (x : X) (i : Nat)
  | mkfn (d : Nat) (f : FuncId) (caps : List X)
  | call (d : Nat) (f : X) (args : List X)
  | mn (d : Nat) (args : List X)
  | mx (d : Nat) (args : List X)
  | mkslice (d : Nat) (len cap : X) (e : TypeId) (zrow : List TV) (bytes : Nat)
  | isnil (d : Nat) (neg ptr : Bool) (x : X)
  | appz (d : Nat) (x n : X) (e : TypeId) (zrow : List TV) (bytes : Nat)
  | mkmap (d : Nat) (kag vag : Bool)
  | mget (d : Nat) (ks : List Lk) (kag vag : Bool) (zs : List TV) (commaOk : Bool) (m k : X)
  | mupd (ks : List Lk) (kag vag : Bool) (n : Nat) (m k v : X)
  | mdel (ks : List Lk) (kag : Bool) (m k : X)
  | mlen (d : Nat) (m : X)
  | bad

structure IOper where
  op : IOp
  guard : Option (Nat × Bool)

/-- What is kept behind a region: slots; objects, by new names. -/
structure GC where
  slots : List Nat
  ids : List (Nat × Nat)

inductive ICode where
  | skip
  | gc (g : GC)
  | region (ops : List IOper) (g : GC)
  | draw (ops : List IOper) (ord : List Nat) (g : GC)
  | seq (a b : ICode)
  | cond (c : X) (a b : ICode)
  | block (id : Nat) (b : ICode)
  | loop (b : ICode)
  | exit (id : Nat)
  | ret
  | bad

inductive Ex where
  | norm | exit (id : Nat) | ret

/-! ### cells -/
def LV.cells : LV → List LV
  | .agg cs => cs
  | .v (.int k n) => [.v (.int k n)]
  | .v (.bool b) => [.v (.bool b)]
  | .v (.str z) => [.v (.str z)]
  | .v (.sl a b c) => [.v (.sl a b c)]
  | .v (.pc cs) => [.v (.pc cs)]
  | .v (.fn f cs) => [.v (.fn f cs)]
  | .v .nilfn => [.v .nilfn]
  | .p a b => [.p a b]
  | .pe a b c => [.pe a b c]
  | .s a b c => [.s a b c]
  | .fn a b => [.fn a b]
  | .m a => [.m a]
  | _ => []

def packL : Bool → List LV → Option LV
  | true, cs => some (.agg cs)
  | false, [c] => some c
  | false, _ => none

def liftV : List TV → List LV
  | [] => []
  | t :: ts => .v t :: liftV ts

/-- a tree read back as a value of the call's -/
def inj : TV → LV
  | .agg cs => .agg (liftV cs)
  | .int a b => .v (.int a b)
  | .bool b => .v (.bool b)
  | .str s => .v (.str s)
  | .sl a b c => .v (.sl a b c)
  | .tup vs => .v (.tup vs)
  | .pc cs => .v (.pc cs)
  | .fn f cs => .v (.fn f cs)
  | .nilfn => .v .nilfn

/-- a value in memory, as a tree, shared; the objects that it names -/
def solidS (off len id : Nat) : Option Ob → Option (TV × List Nat)
  | some (.arr _ _ sz rows) => some (.sl .shared sz ((rows.drop off).take len), [id])
  | _ => none
def solidCell (h : Hp) : LV → Option (TV × List Nat)
  | .v (.sl _ sz rows) => some (.sl .shared sz rows, [])
  | .v (.int k n) => some (.int k n, [])
  | .v (.bool b) => some (.bool b, [])
  | .v (.str s) => some (.str s, [])
  | .v (.pc cs) => some (.pc cs, [])
  | .v (.fn f cs) => some (.fn f cs, [])
  | .v .nilfn => some (.nilfn, [])
  | .s id off len => solidS off len id (h id)
  | _ => none
def consS : Option (TV × List Nat) → Option (List TV × List Nat) → Option (List TV × List Nat)
  | some (t, i), some (ts, is) => some (t :: ts, i ++ is)
  | _, _ => none
def solidCells (h : Hp) : List LV → Option (List TV × List Nat)
  | [] => some ([], [])
  | c :: cs => consS (solidCell h c) (solidCells h cs)

/-- an argument -/
def aggS : Option (List TV × List Nat) → Option (TV × List Nat)
  | some (ts, is) => some (.agg ts, is)
  | none => none
def pcS (id : Nat) : Option (List TV × List Nat) → Option (TV × List Nat)
  | some (ts, is) => some (.pc ts, id :: is)
  | none => none
def fnS (f : FuncId) : Option (List TV × List Nat) → Option (TV × List Nat)
  | some (ts, is) => some (.fn f ts, is)
  | none => none
def solidP (h : Hp) (id off : Nat) : Option Ob → Option (TV × List Nat)
  | some (.var _ cs) => pcS id (solidCells h (cs.drop off))
  | _ => none
/-- a captured value: a variable's address, or a value -/
def solidCap (h : Hp) : LV → Option (TV × List Nat)
  | .p id off => solidP h id off (h id)
  | l => solidCell h l
def solidCaps (h : Hp) : List LV → Option (List TV × List Nat)
  | [] => some ([], [])
  | c :: cs => consS (solidCap h c) (solidCaps h cs)
def solidArg (h : Hp) : LV → Option (TV × List Nat)
  | .agg cs => aggS (solidCells h cs)
  | .p id off => solidP h id off (h id)
  | .fn f caps => fnS f (solidCaps h caps)
  | .v (.sl (.tight e) sz []) => some (.sl (.tight e) sz [], [])
  | l => solidCell h l
def solidArgs (h : Hp) : List LV → Option (List TV × List Nat)
  | [] => some ([], [])
  | c :: cs => consS (solidArg h c) (solidArgs h cs)

def Ob.freeze : Ob → Ob
  | .var _ cs => .var true cs
  | .arr _ e sz rows => .arr true e sz rows
  | .map _ k v es => .map true k v es
  | .dead => .dead

def frz : Option Ob → Option Ob
  | some o => some o.freeze
  | none => none
def freezeAll (h : Hp) : List Nat → Hp
  | [] => h
  | i :: is => freezeAll (upd h i (frz (h i))) is

/-- nothing in it lies in memory -/
def TV.scalar : TV → Bool
  | .int .. => true
  | .bool _ => true
  | .str _ => true
  | .nilfn => true
  | _ => false
def scalars : List TV → Bool
  | [] => true
  | t :: ts => t.scalar && scalars ts
def TV.flat : TV → Bool
  | .agg cs => scalars cs
  | .tup cs => flats cs
  | t => t.scalar
where
  flats : List TV → Bool
  | [] => true
  | .agg cs :: ts => scalars cs && flats ts
  | t :: ts => t.scalar && flats ts

/-- a result's own slices become objects -/
def consT (l : LV) : Option (List LV × St) → Option (List LV × St)
  | some (ls, st) => some (l :: ls, st)
  | none => none
def thawOne (k : Nat) (e : TypeId) (sz : Nat) (rows : List (List TV)) (f : St → Option (List LV × St)) (st : St) : Option Ob → Option (List LV × St)
  | none => consT (.s k 0 rows.length) (f { st with hp := upd st.hp k (some (.arr false e sz rows)) })
  | some _ => none
def thawCells : Nat → List TV → St → Option (List LV × St)
  | _, [], st => some ([], st)
  | k, .sl (.own e) sz rows :: ts, st => thawOne k e sz rows (thawCells (k + 1) ts) st (st.hp k)
  | k, t :: ts, st => consT (.v t) (thawCells (k + 1) ts st)
def oneT : Option (List LV × St) → Option (LV × St)
  | some ([l], st) => some (l, st)
  | _ => none
def aggT : Option (List LV × St) → Option (LV × St)
  | some (ls, st) => some (.agg ls, st)
  | none => none
def tupT : Option (List LV × St) → Option (LV × St)
  | some (ls, st) => some (.tup ls, st)
  | none => none
/-- one part of a result -/
def thaw1 (k : Nat) : TV → St → Option (LV × St)
  | .agg cs, st => if cs.length ≤ 16 then aggT (thawCells k cs st) else none
  | t, st => oneT (thawCells k [t] st)
def thawK (f : St → Option (List LV × St)) : Option (LV × St) → Option (List LV × St)
  | some (l, st) => consT l (f st)
  | none => none
def thawVs : Nat → List TV → St → Option (List LV × St)
  | _, [], st => some ([], st)
  | k, t :: ts, st => thawK (thawVs (k + 16) ts) (thaw1 k t st)
def thaw (k : Nat) : TV → St → Option (LV × St)
  | .tup cs, st => tupT (thawVs k cs st)
  | t, st => thaw1 k t st

def St.set (st : St) (d : Nat) (l : LV) : St := { st with env := upd st.env d l }
def mkK (d id : Nat) (o : Ob) (l : LV) (st : St) : Option Ob → Option St
  | none => some { env := upd st.env d l, hp := upd st.hp id (some o) }
  | some _ => none
def mkO (d id : Nat) (o : Ob) (l : LV) (st : St) : Option St := mkK d id o l st (st.hp id)
def setM (st : St) (d : Nat) : Option LV → Option St
  | some l => some (st.set d l)
  | none => none
def setV (st : St) (d : Nat) : Option TV → Option St
  | some t => some (st.set d (.v t))
  | none => none

/-! ### numbers -/
def andB (k : IntKind) (a b : Int) : Int := (BitVec.ofInt k.bits a &&& BitVec.ofInt k.bits b).toNat
def orB (k : IntKind) (a b : Int) : Int := (BitVec.ofInt k.bits a ||| BitVec.ofInt k.bits b).toNat
def xorB (k : IntKind) (a b : Int) : Int := (BitVec.ofInt k.bits a ^^^ BitVec.ofInt k.bits b).toNat
def andNotB (k : IntKind) (a b : Int) : Int := (BitVec.ofInt k.bits a &&& ~~~BitVec.ofInt k.bits b).toNat
def binI (k : IntKind) (a b : Int) : BinOp → Option TV
  | .add => some (.int k (k.wrap (a + b)))
  | .sub => some (.int k (k.wrap (a - b)))
  | .mul => some (.int k (k.wrap (a * b)))
  | .quo => if b = 0 then none else some (.int k (k.wrap (a.tdiv b)))
  | .rem => if b = 0 then none else some (.int k (a.tmod b))
  | .and => some (.int k (k.wrap (andB k a b)))
  | .or => some (.int k (k.wrap (orB k a b)))
  | .xor => some (.int k (k.wrap (xorB k a b)))
  | .andNot => some (.int k (k.wrap (andNotB k a b)))
  | .eql => some (.bool (decide (a = b)))
  | .neq => some (.bool (decide (a ≠ b)))
  | .lss => some (.bool (decide (a < b)))
  | .leq => some (.bool (decide (a ≤ b)))
  | .gtr => some (.bool (decide (a > b)))
  | .geq => some (.bool (decide (a ≥ b)))
  | .shl => if b < 0 then none else some (.int k (k.wrap (a * 2 ^ (min b.toNat k.bits))))
  | .shr => if b < 0 then none else some (.int k (a.fdiv (2 ^ (min b.toNat k.bits))))
def shiftOp : BinOp → Bool
  | .shl => true
  | .shr => true
  | _ => false
def binB (a b : Bool) : BinOp → Option TV
  | .eql => some (.bool (a == b))
  | .neq => some (.bool (!(a == b)))
  | _ => none
def binS (a b : ByteArray) : BinOp → Option TV
  | .eql => some (.bool (a.toList == b.toList))
  | .neq => some (.bool (!(a.toList == b.toList)))
  | .lss => some (.bool (Op.bytesLess a.toList b.toList))
  | .add => if a.size + b.size ≤ 9223372036854775807 then some (.str (a ++ b)) else none
  | _ => none
def binV (bt : Bool) (op : BinOp) : LV → LV → Option TV
  | .v (.int k a), .v (.int k' b) => if k = k' ∨ shiftOp op = true then binI k a b op else none
  | .v (.bool a), .v (.bool b) => if bt then binB a b op else none
  | .v (.str a), .v (.str b) => binS a b op
  | _, _ => none

def eqCell : Lk → LV → LV → Option Bool
  | .i, .v (.int k a), .v (.int k' b) => if k = k' then some (decide (a = b)) else none
  | .b, .v (.bool a), .v (.bool b) => some (a == b)
  | .z, .v (.str a), .v (.str b) => some (a.toList == b.toList)
  | _, _, _ => none
def andO : Option Bool → Option Bool → Option Bool
  | some a, some b => some (a && b)
  | _, _ => none
def eqCells : List Lk → List LV → List LV → Option Bool
  | [], [], [] => some true
  | k :: ks, x :: xs, y :: ys => andO (eqCell k x y) (eqCells ks xs ys)
  | _, _, _ => none
def negB (neg : Bool) : Option Bool → Option TV
  | some b => some (.bool (if neg then !b else b))
  | none => none
def eqL (neg : Bool) (ks : List Lk) : LV → LV → Option TV
  | .agg a, .agg b => negB neg (eqCells ks a b)
  | _, _ => none
def unV : UnOp → LV → Option TV
  | .not, .v (.bool b) => some (.bool (!b))
  | .neg, .v (.int k n) => some (.int k (k.wrap (0 - n)))
  | _, _ => none
def convV (k : IntKind) : LV → Option TV
  | .v (.int _ n) => some (.int k (k.wrap n))
  | _ => none

/-- the rows of a slice -/
def rowsS (off len : Nat) : Option Ob → Option (Nat × List (List TV))
  | some (.arr _ _ sz rows) => some (sz, (rows.drop off).take len)
  | _ => none
def byteRows : List UInt8 → List (List TV)
  | [] => []
  | b :: bs => [.int .u8 b.toNat] :: byteRows bs
def rowsOf (h : Hp) : LV → Option (Nat × List (List TV))
  | .v (.sl _ sz rows) => some (sz, rows)
  | .v (.str s) => some (1, byteRows s.data.toList)
  | .s id off len => rowsS off len (h id)
  | _ => none
/-- the rows of a slice that is no string -/
def rowsB (h : Hp) : LV → Option (Nat × List (List TV))
  | .v (.sl _ sz rows) => some (sz, rows)
  | .s id off len => rowsS off len (h id)
  | _ => none
/-- the bytes of rows of one byte each -/
def bytesOf : List (List TV) → Option (List UInt8)
  | [] => some []
  | [.int .u8 n] :: rs => (bytesOf rs).map (UInt8.ofNat n.toNat :: ·)
  | _ => none
def strR : Option (List UInt8) → Option TV
  | some bs => some (.str ⟨bs.toArray⟩)
  | none => none
def b2sK : Option (Nat × List (List TV)) → Option TV
  | some (1, rows) => strR (bytesOf rows)
  | _ => none
def lenV : Bool → LV → Option TV
  | false, .v (.sl _ _ rows) => some (.int .i64 rows.length)
  | true, .v (.str s) => some (.int .i64 s.size)
  | false, .s _ _ len => some (.int .i64 len)
  | _, _ => none
def capV : LV → Option TV
  | .v (.sl (.tight _) _ rows) => some (.int .i64 rows.length)
  | _ => none

def setFrom (cs : List LV) (off : Nat) : List LV → List LV
  | [] => cs
  | x :: xs => setFrom (cs.set off x) (off + 1) xs
def setFromT (cs : List TV) (off : Nat) : List TV → List TV
  | [] => cs
  | x :: xs => setFromT (cs.set off x) (off + 1) xs

def bndL (mx : Nat) : LV → Option Nat
  | .v (.int _ n) => if 0 ≤ n ∧ n ≤ mx then some n.toNat else none
  | _ => none
def bndX (e : Nat → LV) (dflt : Nat) : Option X → Option Nat → Option Nat
  | none, some _ => some dflt
  | some x, some mx => bndL mx (x.rd e)
  | _, none => none

def minGo (k : IntKind) (x : Int) : List LV → Option LV
  | [] => some (.v (.int k x))
  | .v (.int _ y) :: r => minGo k (if y < x then y else x) r
  | _ => none
def foldMin : List LV → Option LV
  | .v (.int k x) :: rest => minGo k x rest
  | _ => none
def maxGo (k : IntKind) (x : Int) : List LV → Option LV
  | [] => some (.v (.int k x))
  | .v (.int _ y) :: r => maxGo k (if y > x then y else x) r
  | _ => none
def foldMax : List LV → Option LV
  | .v (.int k x) :: rest => maxGo k x rest
  | _ => none

def buildCells (e : Nat → LV) (cs : List LV) : List (Nat × Nat × X) → Option LV
  | [] => some (.agg cs)
  | (off, n, x) :: ps => if (X.rd e x).cells.length = n ∧ off + n ≤ cs.length then buildCells e (setFrom cs off (X.rd e x).cells) ps else none

def consR (sz : Nat) : Option (List TV × List Nat) → Option (List (List TV) × List Nat) → Option (List (List TV) × List Nat)
  | some (r, i), some (rs, is) => if r.length = sz then some (r :: rs, i ++ is) else none
  | _, _ => none
def solidRows (h : Hp) (e : Nat → LV) (sz : Nat) : List X → Option (List (List TV) × List Nat)
  | [] => some ([], [])
  | x :: xs => consR sz (solidCells h (X.rd e x).cells) (solidRows h e sz xs)

/-! ### one operation -/
def pickK (st : St) (d : Nat) (a b : LV) : LV → Option St
  | .v (.bool c) => if c = true then some (st.set d a) else some (st.set d b)
  | _ => none
def boxK (lo : Nat) (st : St) (d n : Nat) (cs : List LV) : Option St := if cs.length = n then mkO d (lo + d) (.var false cs) (.p (lo + d) 0) st else none
def bsliceK (lo : Nat) (st : St) (d : Nat) (e : TypeId) (sz : Nat) : Option (List (List TV) × List Nat) → Option St
  | some (rows, is) => mkO d (lo + d) (.arr false e sz rows) (.s (lo + d) 0 rows.length) { st with hp := freezeAll st.hp is }
  | none => none
def cut (ag : Bool) (cs : List LV) (off n : Nat) : Option LV := if off + n ≤ cs.length then packL ag ((cs.drop off).take n) else none
def loadR (ag : Bool) (off n : Nat) : Option (List TV) → Option LV
  | some r => if off + n ≤ r.length then packL ag (liftV ((r.drop off).take n)) else none
  | none => none
def loadO (ag : Bool) (off n : Nat) : Option Ob → Option LV
  | some (.var _ cs) => cut ag cs off n
  | _ => none
def loadE (ag : Bool) (row off n : Nat) : Option Ob → Option LV
  | some (.arr _ _ _ rows) => loadR ag off n rows[row]?
  | _ => none
def loadL (h : Hp) (n : Nat) (ag : Bool) : LV → Option LV
  | .p id off => loadO ag off n (h id)
  | .pe id row off => loadE ag row off n (h id)
  | .v (.pc cs) => loadR ag 0 n (some cs)
  | _ => none
def storeP (st : St) (id off n : Nat) (xs : List LV) : Option Ob → Option St
  | some (.var false cs) => if off + n ≤ cs.length ∧ xs.length = n then some { st with hp := upd st.hp id (some (.var false (setFrom cs off xs))) } else none
  | _ => none
def storeE2 (st : St) (id : Nat) (e : TypeId) (sz : Nat) (rows : List (List TV)) (row off n : Nat) (ts : List TV) (is : List Nat) : Option (List TV) → Option St
  | some r => if off + n ≤ r.length ∧ ts.length = n ∧ ¬ id ∈ is then some { st with hp := upd (freezeAll st.hp is) id (some (.arr false e sz (rows.set row (setFromT r off ts)))) } else none
  | none => none
def storeE (st : St) (id row off n : Nat) : Option (List TV × List Nat) → Option Ob → Option St
  | some (ts, is), some (.arr false e sz rows) => storeE2 st id e sz rows row off n ts is rows[row]?
  | _, _ => none
def storeL (st : St) (n : Nat) (xs : List LV) : LV → Option St
  | .p id off => storeP st id off n xs (st.hp id)
  | .pe id row off => storeE st id row off n (solidCells st.hp xs) (st.hp id)
  | _ => none
def nchkL : LV → Option LV
  | .p id off => some (.p id off)
  | .pe id r off => some (.pe id r off)
  | .v (.pc cs) => some (.v (.pc cs))
  | .fn f cs => some (.fn f cs)
  | .v (.fn f cs) => some (.v (.fn f cs))
  | _ => none
def fldL (off n : Nat) (ag : Bool) : LV → Option LV
  | .agg cs => cut ag cs off n
  | _ => none
def faddrL (off : Nat) : LV → Option LV
  | .p id o => some (.p id (o + off))
  | .pe id r o => some (.pe id r (o + off))
  | .v (.pc cs) => some (.v (.pc (cs.drop off)))
  | _ => none
def pcR : Option (List TV) → Option LV
  | some r => some (.v (.pc r))
  | none => none
def iaddrS (sz id off len : Nat) (n : Int) : Option Ob → Option LV
  | some (.arr _ _ sz' _) => if sz' = sz ∧ 0 ≤ n ∧ n < len then some (.pe id (off + n.toNat) 0) else none
  | _ => none
def iaddrL (h : Hp) (sz : Nat) : LV → LV → Option LV
  | .v (.sl _ sz' rows), .v (.int _ n) => if sz' = sz ∧ 0 ≤ n then pcR rows[n.toNat]? else none
  | .s id off len, .v (.int _ n) => iaddrS sz id off len n (h id)
  | _, _ => none
def aaddrL (len sz : Nat) (l : LV) : LV → Option LV
  | .v (.int _ n) => if 0 ≤ n ∧ n < len then faddrL (n.toNat * sz) l else none
  | _ => none
def ixaL (len sz : Nat) (ag : Bool) : LV → LV → Option LV
  | .agg cs, .v (.int _ n) => if 0 ≤ n ∧ n < len then cut ag cs (n.toNat * sz) sz else none
  | _, _ => none
def byteR : Option UInt8 → Option LV
  | some b => some (.v (.int .u8 b.toNat))
  | none => none
def ixsL : LV → LV → Option LV
  | .v (.str s), .v (.int _ n) => if 0 ≤ n then byteR s.data.toList[n.toNat]? else none
  | _, _ => none
def flOf (hi : Bool) : Fl → Fl
  | .tight e => if hi then .tight e else .shared
  | _ => .shared
def cutV (fl : Fl) (sz : Nat) (rows : List (List TV)) : Option Nat → Option Nat → Option LV
  | some h, some l => some (.v (.sl (flOf (decide (h = rows.length)) fl) sz ((rows.drop l).take (h - l))))
  | _, _ => none
def cutM (e : TypeId) (sz : Nat) (rows : List (List TV)) : Option Nat → Option Nat → Option Nat → Option LV
  | some m, some h, some l => some (.v (.sl (if h = m then .tight e else .shared) sz ((rows.drop l).take (h - l))))
  | _, _, _ => none
def cutS (id off : Nat) : Option Nat → Option Nat → Option LV
  | some h, some l => some (.s id (off + l) (h - l))
  | _, _ => none
def cutO (sz id off : Nat) (h l : Option Nat) : Option Ob → Option LV
  | some (.arr _ _ sz' _) => if sz' = sz then cutS id off h l else none
  | _ => none
def cutV2 (e : Nat → LV) (lo hi : Option X) (fl : Fl) (sz : Nat) (rows : List (List TV)) : Option LV :=
  cutV fl sz rows (bndX e rows.length hi (some rows.length)) (bndX e 0 lo (bndX e rows.length hi (some rows.length)))
def cutV3 (te : TypeId) (e : Nat → LV) (lo hi : Option X) (m : X) (sz : Nat) (rows : List (List TV)) : Option LV :=
  cutM te sz rows (bndX e 0 (some m) (some rows.length)) (bndX e 0 hi (bndX e 0 (some m) (some rows.length)))
    (bndX e 0 lo (bndX e 0 hi (bndX e 0 (some m) (some rows.length))))
def sliceL (hp : Hp) (te : TypeId) (sz : Nat) (e : Nat → LV) (lo hi : Option X) : Option X → LV → Option LV
  | none, .v (.sl fl sz' rows) => if sz' = sz then cutV2 e lo hi fl sz rows else none
  | some m, .v (.sl _ sz' rows) => if sz' = sz then cutV3 te e lo hi m sz rows else none
  | none, .s id off len => cutO sz id off (bndX e len hi (some len)) (bndX e 0 lo (bndX e len hi (some len))) (hp id)
  | _, _ => none
def appS (lo : Nat) (st : St) (d id len : Nat) (e : TypeId) (sz bytes : Nat) (new : List (List TV)) : Option Ob → Option St
  | some (.arr false e' sz' rows) => if e' = e ∧ sz' = sz ∧ (len + new.length) * bytes ≤ 140737488355328 then
      mkO d (lo + d) (.arr false e sz (rows.take len ++ new)) (.s (lo + d) 0 (len + new.length)) { st with hp := upd st.hp id (some .dead) } else none
  | _ => none
def appT (lo : Nat) (st : St) (d : Nat) (e : TypeId) (sz bytes : Nat) (new : List (List TV)) : List (List TV) → Option St
  | [] => if new.length * bytes ≤ 140737488355328 then mkO d (lo + d) (.arr false e sz new) (.s (lo + d) 0 new.length) st else none
  | r :: rows => if new.isEmpty then some (st.set d (.v (.sl (.tight e) sz (r :: rows)))) else
      if ((r :: rows).length + new.length) * bytes ≤ 140737488355328 then mkO d (lo + d) (.arr false e sz (r :: rows ++ new)) (.s (lo + d) 0 ((r :: rows).length + new.length)) st else none
def appL (lo : Nat) (st : St) (d : Nat) (e : TypeId) (sz bytes : Nat) (new : List (List TV)) : LV → Option St
  | .v (.sl (.tight _) sz' rows) => if sz' = sz then appT lo st d e sz bytes new rows else none
  | .s id 0 len => appS lo st d id len e sz bytes new (st.hp id)
  | _ => none
def appK (lo : Nat) (st : St) (d : Nat) (e : TypeId) (sz bytes : Nat) (x : LV) : Option (Nat × List (List TV)) → Option St
  | some (sz', new) => if sz' = sz then appL lo st d e sz bytes new x else none
  | none => none
def copyO (st : St) (d id off n sz : Nat) (new : List (List TV)) : Option Ob → Option St
  | some (.arr false e sz' rows) => if sz' = sz then some { env := upd st.env d (.v (.int .i64 n)), hp := upd st.hp id (some (.arr false e sz (rows.take off ++ new ++ rows.drop (off + n)))) } else none
  | _ => none
def copyL (st : St) (d sz : Nat) (new : List (List TV)) : LV → Option St
  | .s id off len => copyO st d id off (min new.length len) sz (new.take (min new.length len)) (st.hp id)
  | _ => none
def copyK (st : St) (d sz : Nat) (x : LV) : Option (Nat × List (List TV)) → Option St
  | some (sz', new) => if sz' = sz then copyL st d sz new x else none
  | none => none
def extL (i : Nat) : LV → Option LV
  | .tup vs => vs[i]?
  | _ => none
def mksK (lo : Nat) (st : St) (d : Nat) (e : TypeId) (zrow : List TV) (bytes : Nat) : LV → LV → Option St
  | .v (.int .i64 n), .v (.int .i64 c) => if 0 ≤ n ∧ c = n ∧ n * bytes ≤ 140737488355328 then mkO d (lo + d) (.arr false e zrow.length (List.replicate n.toNat zrow)) (.s (lo + d) 0 n.toNat) st else none
  | _, _ => none

/-- whether it is nil, where that is known -/
def nilB (neg : Bool) : Option Bool → Option TV
  | some b => some (.bool (if neg then !b else b))
  | none => none
def isnilL : Bool → LV → Option Bool
  | false, .v (.sl _ _ (_ :: _)) => some false
  | false, .s _ _ (_ + 1) => some false
  | true, .p _ _ => some false
  | true, .pe _ _ _ => some false
  | true, .v (.pc _) => some false
  | _, _ => none
def appzK (lo : Nat) (st : St) (d : Nat) (e : TypeId) (zrow : List TV) (bytes : Nat) : LV → LV → Option St
  | .v (.sl (.tight _) sz []), .v (.int .i64 n) => if sz = zrow.length ∧ 0 ≤ n ∧ n * bytes ≤ 140737488355328 then
      mkO d (lo + d) (.arr false e zrow.length (List.replicate n.toNat zrow)) (.s (lo + d) 0 n.toNat) st else none
  | _, _ => none

/-! ### maps: keys that are compared cell by cell -/
def findM (ks : List Lk) (key : List LV) : List (List TV × List TV) → Option (Option (List TV))
  | [] => some none
  | (a, v) :: r => match eqCells ks key (liftV a) with
    | some true => some (some v)
    | some false => findM ks key r
    | none => none
def consM (x : List TV × List TV) : Option (List (List TV × List TV)) → Option (List (List TV × List TV))
  | some r => some (x :: r)
  | none => none
def updM (ks : List Lk) (key : List LV) (kc vc : List TV) : List (List TV × List TV) → Option (List (List TV × List TV))
  | [] => some [(kc, vc)]
  | (a, v) :: r => match eqCells ks key (liftV a) with
    | some true => some ((kc, vc) :: r)
    | some false => consM (a, v) (updM ks key kc vc r)
    | none => none
def delM (ks : List Lk) (key : List LV) : List (List TV × List TV) → Option (List (List TV × List TV))
  | [] => some []
  | (a, v) :: r => match eqCells ks key (liftV a) with
    | some true => some r
    | some false => consM (a, v) (delM ks key r)
    | none => none
def mgetP (b : Bool) : Bool → Option LV → Option LV
  | true, some l => some (.tup [l, .v (.bool b)])
  | false, some l => some l
  | _, none => none
def mgetR (vag : Bool) (zs : List TV) (cok : Bool) : Option (Option (List TV)) → Option LV
  | some (some v) => mgetP true cok (packL vag (liftV v))
  | some none => mgetP false cok (packL vag (liftV zs))
  | none => none
/-- a value in one piece -/
def oneOf : Bool → LV → Option (List LV)
  | true, .agg cs => some cs
  | false, .v (.int k n) => some [.v (.int k n)]
  | false, .v (.bool b) => some [.v (.bool b)]
  | false, .v (.str z) => some [.v (.str z)]
  | false, .v (.sl a b c) => some [.v (.sl a b c)]
  | false, .s a b c => some [.s a b c]
  | _, _ => none
def mgetO (ks : List Lk) (kag vag : Bool) (zs : List TV) (cok : Bool) (key : List LV) : Option Ob → Option LV
  | some (.map _ kag' vag' ents) => if kag' = kag ∧ vag' = vag ∧ key.length = ks.length then mgetR vag zs cok (findM ks key ents) else none
  | _ => none
def mgetL (h : Hp) (ks : List Lk) (kag vag : Bool) (zs : List TV) (cok : Bool) : Option (List LV) → LV → Option LV
  | some key, .m id => mgetO ks kag vag zs cok key (h id)
  | _, _ => none
def scalTV : LV → Option TV
  | .v (.int k n) => some (.int k n)
  | .v (.bool b) => some (.bool b)
  | .v (.str s) => some (.str s)
  | _ => none
def consO : Option TV → Option (List TV) → Option (List TV)
  | some t, some ts => some (t :: ts)
  | _, _ => none
def scalTVs : List LV → Option (List TV)
  | [] => some []
  | l :: ls => consO (scalTV l) (scalTVs ls)
def setMap (st : St) (h : Hp) (id : Nat) (kag vag : Bool) : Option (List (List TV × List TV)) → Option St
  | some es => some { st with hp := upd h id (some (.map false kag vag es)) }
  | none => none
def solidO (h : Hp) : Option (List LV) → Option (List TV × List Nat)
  | some ls => solidCells h ls
  | none => none
def mupdO (st : St) (id : Nat) (ks : List Lk) (kag vag : Bool) (n : Nat) (key : List LV) : Option (List TV) → Option (List TV × List Nat) → Option Ob → Option St
  | some kc, some (vc, is), some (.map false kag' vag' ents) => if kag' = kag ∧ vag' = vag ∧ kc.length = ks.length ∧ vc.length = n ∧ ¬ id ∈ is then setMap st (freezeAll st.hp is) id kag vag (updM ks key kc vc ents) else none
  | _, _, _ => none
def mupdL (st : St) (ks : List Lk) (kag vag : Bool) (n : Nat) (val : Option (List TV × List Nat)) : Option (List LV) → LV → Option St
  | some key, .m id => mupdO st id ks kag vag n key (scalTVs key) val (st.hp id)
  | _, _ => none
def mdelO (st : St) (id : Nat) (ks : List Lk) (kag : Bool) (key : List LV) : Option Ob → Option St
  | some (.map false kag' vag ents) => if kag' = kag ∧ key.length = ks.length then setMap st st.hp id kag vag (delM ks key ents) else none
  | _ => none
def mdelL (st : St) (ks : List Lk) (kag : Bool) : Option (List LV) → LV → Option St
  | some key, .m id => mdelO st id ks kag key (st.hp id)
  | _, _ => none
def mlenO : Option Ob → Option TV
  | some (.map _ _ _ ents) => some (.int .i64 ents.length)
  | _ => none
def mlenL (h : Hp) : LV → Option TV
  | .m id => mlenO (h id)
  | _ => none

section
variable (C : FuncId → List TV → Option TV) (lo : Nat)
def callT (d : Nat) : Option (LV × St) → Option St
  | some (l, st) => some (st.set d l)
  | none => none
def callR (d : Nat) (is : List Nat) (st : St) : Option TV → Option St
  | some r => callT d (thaw (lo + (1000 + d * 64)) r { st with hp := if is.isEmpty || r.flat then st.hp else freezeAll st.hp is })
  | none => none
def callA (d : Nat) (f : FuncId) (st : St) : Option (List TV × List Nat) → Option St
  | some (ts, is) => callR lo d is st (C f ts)
  | none => none
def callF (d : Nat) (args : List LV) (st : St) : LV → Option St
  | .fn f caps => callA C lo d f st (solidArgs st.hp (args ++ caps))
  | .v (.fn f caps) => callA C lo d f st (solidArgs st.hp (args ++ liftV caps))
  | _ => none

def evOp (st : St) : IOp → Option St
  | .mv d x => some (st.set d (x.rd st.env))
  | .pick d c a b => pickK st d (a.rd st.env) (b.rd st.env) (c.rd st.env)
  | .alloc d zs => mkO d (lo + d) (.var false zs) (.p (lo + d) 0) st
  | .box d x n => boxK lo st d n (x.rd st.env).cells
  | .build d zs parts => setM st d (buildCells st.env zs parts)
  | .bslice d e sz parts => bsliceK lo st d e sz (solidRows st.hp st.env sz parts)
  | .load d a n ag => setM st d (loadL st.hp n ag (a.rd st.env))
  | .store a x n => storeL st n (x.rd st.env).cells (a.rd st.env)
  | .nchk d x => setM st d (nchkL (x.rd st.env))
  | .bin d bt op x y => setV st d (binV bt op (x.rd st.env) (y.rd st.env))
  | .eqs d neg ks x y => setV st d (eqL neg ks (x.rd st.env) (y.rd st.env))
  | .un d op x => setV st d (unV op (x.rd st.env))
  | .conv d k x => setV st d (convV k (x.rd st.env))
  | .fld d x off n ag => setM st d (fldL off n ag (x.rd st.env))
  | .faddr d a off => setM st d (faddrL off (a.rd st.env))
  | .aaddr d x i len sz => setM st d (aaddrL len sz (x.rd st.env) (i.rd st.env))
  | .iaddr d x i sz => setM st d (iaddrL st.hp sz (x.rd st.env) (i.rd st.env))
  | .ixa d x i len sz ag => setM st d (ixaL len sz ag (x.rd st.env) (i.rd st.env))
  | .ixs d x i => setM st d (ixsL (x.rd st.env) (i.rd st.env))
  | .slice d x lo hi mx e sz => setM st d (sliceL st.hp e sz st.env lo hi mx (x.rd st.env))
  | .len d z x => setV st d (lenV z (x.rd st.env))
  | .cap d x => setV st d (capV (x.rd st.env))
  | .append d x y e sz bytes => appK lo st d e sz bytes (x.rd st.env) (rowsOf st.hp (y.rd st.env))
  | .copy d x y sz => copyK st d sz (x.rd st.env) (rowsOf st.hp (y.rd st.env))
  | .b2s d x => setV st d (b2sK (rowsB st.hp (x.rd st.env)))
  | .ext d x i => setM st d (extL i (x.rd st.env))
  | .mkfn d f caps => some (st.set d (.fn f (rds st.env caps)))
  | .call d f args => callF C lo d (rds st.env args) st (f.rd st.env)
  | .mn d args => setM st d (foldMin (rds st.env args))
  | .mx d args => setM st d (foldMax (rds st.env args))
  | .mkslice d l c e zrow bytes => mksK lo st d e zrow bytes (l.rd st.env) (c.rd st.env)
  | .isnil d neg ptr x => setV st d (nilB neg (isnilL ptr (x.rd st.env)))
  | .appz d x n e zrow bytes => appzK lo st d e zrow bytes (x.rd st.env) (n.rd st.env)
  | .mkmap d kag vag => mkO d (lo + d) (.map false kag vag []) (.m (lo + d)) st
  | .mget d ks kag vag zs cok m k => setM st d (mgetL st.hp ks kag vag zs cok (oneOf kag (k.rd st.env)) (m.rd st.env))
  | .mupd ks kag vag n m k v => mupdL st ks kag vag n (solidO st.hp (oneOf vag (v.rd st.env))) (oneOf kag (k.rd st.env)) (m.rd st.env)
  | .mdel ks kag m k => mdelL st ks kag (oneOf kag (k.rd st.env)) (m.rd st.env)
  | .mlen d m => setV st d (mlenL st.hp (m.rd st.env))
  | .bad => none

def IOp.dst : IOp → Option Nat
  | .mv d _ => some d
  | .pick d _ _ _ => some d
  | .alloc d _ => some d
  | .box d _ _ => some d
  | .build d _ _ => some d
  | .bslice d _ _ _ => some d
  | .load d _ _ _ => some d
  | .store _ _ _ => none
  | .nchk d _ => some d
  | .bin d _ _ _ _ => some d
  | .eqs d _ _ _ _ => some d
  | .un d _ _ => some d
  | .conv d _ _ => some d
  | .fld d _ _ _ _ => some d
  | .faddr d _ _ => some d
  | .iaddr d _ _ _ => some d
  | .aaddr d _ _ _ _ => some d
  | .ixa d _ _ _ _ _ => some d
  | .ixs d _ _ => some d
  | .slice d _ _ _ _ _ _ => some d
  | .len d _ _ => some d
  | .cap d _ => some d
  | .append d _ _ _ _ _ => some d
  | .copy d _ _ _ => some d
  | .b2s d _ => some d
  | .ext d _ _ => some d
  | .mkfn d _ _ => some d
  | .call d _ _ => some d
  | .mn d _ => some d
  | .mx d _ => some d
  | .mkslice d _ _ _ _ _ => some d
  | .isnil d _ _ _ => some d
  | .appz d _ _ _ _ _ => some d
  | .mkmap d _ _ => some d
  | .mget d _ _ _ _ _ _ _ => some d
  | .mupd _ _ _ _ _ _ _ => none
  | .mdel _ _ _ _ => none
  | .mlen d _ => some d
  | .bad => none

/-- the slots that an operation reads -/
def X.rs : X → List Nat
  | .t i => [i]
  | _ => []
def xrs : List X → List Nat
  | [] => []
  | x :: xs => x.rs ++ xrs xs
def oxrs : Option X → List Nat
  | some x => x.rs
  | none => []
def prs : List (Nat × Nat × X) → List Nat
  | [] => []
  | (_, _, x) :: ps => x.rs ++ prs ps
def IOp.reads : IOp → List Nat
  | .mv _ x => x.rs
  | .pick _ c a b => c.rs ++ (a.rs ++ b.rs)
  | .alloc _ _ => []
  | .box _ x _ => x.rs
  | .build _ _ ps => prs ps
  | .bslice _ _ _ ps => xrs ps
  | .load _ a _ _ => a.rs
  | .store a x _ => a.rs ++ x.rs
  | .nchk _ x => x.rs
  | .bin _ _ _ x y => x.rs ++ y.rs
  | .eqs _ _ _ x y => x.rs ++ y.rs
  | .un _ _ x => x.rs
  | .conv _ _ x => x.rs
  | .fld _ x _ _ _ => x.rs
  | .faddr _ a _ => a.rs
  | .iaddr _ x i _ => x.rs ++ i.rs
  | .aaddr _ x i _ _ => x.rs ++ i.rs
  | .ixa _ x i _ _ _ => x.rs ++ i.rs
  | .ixs _ x i => x.rs ++ i.rs
  | .slice _ x l h m _ _ => x.rs ++ (oxrs l ++ (oxrs h ++ oxrs m))
  | .len _ _ x => x.rs
  | .cap _ x => x.rs
  | .append _ x y _ _ _ => x.rs ++ y.rs
  | .copy _ x y _ => x.rs ++ y.rs
  | .b2s _ x => x.rs
  | .ext _ x _ => x.rs
  | .mkfn _ _ cs => xrs cs
  | .call _ f args => f.rs ++ xrs args
  | .mn _ args => xrs args
  | .mx _ args => xrs args
  | .mkslice _ l c _ _ _ => l.rs ++ c.rs
  | .isnil _ _ _ x => x.rs
  | .appz _ x n _ _ _ => x.rs ++ n.rs
  | .mkmap _ _ _ => []
  | .mget _ _ _ _ _ _ m k => m.rs ++ k.rs
  | .mupd _ _ _ _ m k v => m.rs ++ (k.rs ++ v.rs)
  | .mdel _ _ m k => m.rs ++ k.rs
  | .mlen _ m => m.rs
  | .bad => []
def IOper.reads : IOper → List Nat
  | ⟨o, none⟩ => o.reads
  | ⟨o, some (j, _)⟩ => j :: o.reads

def skipK (st : St) : Option Nat → Option St
  | some d => some (st.set d (.tup []))
  | none => some st
def guardK (st : St) (o : IOp) (want : Bool) : LV → Option St
  | .v (.bool b) => if b = want then evOp C lo st o else skipK st o.dst
  | .tup [] => skipK st o.dst
  | _ => none
def evOper (st : St) : IOper → Option St
  | ⟨o, none⟩ => evOp C lo st o
  | ⟨o, some (j, want)⟩ => guardK C lo st o want (st.env j)

def evOps : List IOper → Option St → Option St
  | [], st => st
  | o :: os, some st => evOps os (evOper C lo st o)
  | _ :: _, none => none
end

/-! ### what is kept -/
/-- the new name of an object: below 'lo' its own; from there on by the list -/
def lk (lo i : Nat) : List (Nat × Nat) → Option Nat
  | [] => if i < lo then some i else none
  | (a, b) :: r => if lo + a = i then some (lo + b) else lk lo i r
def renP (off : Nat) : Option Nat → LV
  | some n => .p n off
  | none => .u
def renE (r off : Nat) : Option Nat → LV
  | some n => .pe n r off
  | none => .u
def renS (off len : Nat) : Option Nat → LV
  | some n => .s n off len
  | none => .u
def renM : Option Nat → LV
  | some n => .m n
  | none => .u
def maskC (lo : Nat) (j : List (Nat × Nat)) : LV → LV
  | .p id off => renP off (lk lo id j)
  | .pe id r off => renE r off (lk lo id j)
  | .s id off len => renS off len (lk lo id j)
  | .m id => renM (lk lo id j)
  | .v t => .v t
  | .tup [] => .tup []
  | _ => .u
def maskCs (lo : Nat) (j : List (Nat × Nat)) : List LV → List LV
  | [] => []
  | c :: cs => maskC lo j c :: maskCs lo j cs
def mask2 (lo : Nat) (j : List (Nat × Nat)) : List LV → List LV
  | [] => []
  | .agg cs :: ls => .agg (maskCs lo j cs) :: mask2 lo j ls
  | c :: ls => maskC lo j c :: mask2 lo j ls
def maskL (lo : Nat) (j : List (Nat × Nat)) : LV → LV
  | .agg cs => .agg (maskCs lo j cs)
  | .fn f cs => .fn f (maskCs lo j cs)
  | .tup (c :: cs) => .tup (mask2 lo j (c :: cs))
  | l => maskC lo j l
def maskO (lo : Nat) (j : List (Nat × Nat)) : Option Ob → Option Ob
  | some (.var fz cs) => some (.var fz (maskCs lo j cs))
  | some (.arr fz e sz rows) => some (.arr fz e sz rows)
  | some (.map fz k v es) => some (.map fz k v es)
  | some .dead => some .dead
  | none => none
def keepEnv (lo : Nat) (j : List (Nat × Nat)) (e : Nat → LV) : List Nat → Nat → LV
  | [] => e0
  | k :: ks => upd (keepEnv lo j e ks) k (maskL lo j (e k))
def keepLo (j : List (Nat × Nat)) (h : Hp) : Nat → Hp
  | 0 => h0
  | lo + 1 => fun i => if i < lo + 1 then maskO (lo + 1) j (h i) else none
def keepHp (lo : Nat) (j : List (Nat × Nat)) (h : Hp) : List (Nat × Nat) → Hp
  | [] => keepLo j h lo
  | (a, b) :: r => upd (keepHp lo j h r) (lo + b) (maskO lo j (h (lo + a)))
def GC.run (lo : Nat) (g : GC) (st : St) : St := { env := keepEnv lo g.ids st.env g.slots, hp := keepHp lo g.ids st.hp g.ids }

/-! ### code -/
def regK (lo : Nat) (g : GC) : Option St → Option (Ex × St)
  | some st => some (.norm, g.run lo st)
  | none => none
def seqK (k : St → Option (Ex × St)) : Option (Ex × St) → Option (Ex × St)
  | some (.norm, st) => k st
  | some (.exit i, st) => some (.exit i, st)
  | some (.ret, st) => some (.ret, st)
  | none => none
def blockK (id : Nat) : Option (Ex × St) → Option (Ex × St)
  | some (.exit i, st) => if i = id then some (.norm, st) else some (.exit i, st)
  | some (.norm, st) => some (.norm, st)
  | some (.ret, st) => some (.ret, st)
  | none => none
def condK (a b : St → Option (Ex × St)) (st : St) : LV → Option (Ex × St)
  | .v (.bool c) => if c = true then a st else b st
  | _ => none

/-! ### an operation's footprint: what it looks at, what it turns or makes -/
structure Fp where
  rd : List Nat
  wr : List Nat
def fp0 : Fp := ⟨[], []⟩
def fpA : LV → List Nat
  | .p id _ => [id]
  | .pe id _ _ => [id]
  | .s id _ _ => [id]
  | .m id => [id]
  | _ => []
def fpS : Option (List TV × List Nat) → List Nat
  | some (_, is) => is
  | none => []
def fpW (x : Option (List TV × List Nat)) : LV → List Nat
  | .p id _ => [id]
  | .pe id _ _ => id :: fpS x
  | _ => []
def fpM (x : Option (List TV × List Nat)) : LV → List Nat
  | .m id => id :: fpS x
  | _ => []
def fpR : Option (List (List TV) × List Nat) → List Nat
  | some (_, is) => is
  | none => []
def thawNs : Nat → List TV → List Nat
  | _, [] => []
  | k, .sl (.own _) _ _ :: ts => k :: thawNs (k + 1) ts
  | k, _ :: ts => thawNs (k + 1) ts
def thawN1 (k : Nat) : TV → List Nat
  | .agg cs => thawNs k cs
  | t => thawNs k [t]
def thawNVs : Nat → List TV → List Nat
  | _, [] => []
  | k, t :: ts => thawN1 k t ++ thawNVs (k + 16) ts
def thawN (k : Nat) : TV → List Nat
  | .tup cs => thawNVs k cs
  | t => thawN1 k t
def fpCall (lo d : Nat) (is : List Nat) : Option TV → Fp
  | some r => ⟨is, (if r.flat then [] else is) ++ thawN (lo + (1000 + d * 64)) r⟩
  | none => fp0
def fpCallA (C : FuncId → List TV → Option TV) (lo d : Nat) (f : FuncId) : Option (List TV × List Nat) → Fp
  | some (ts, is) => fpCall lo d is (C f ts)
  | none => fp0
def fpCallF (C : FuncId → List TV → Option TV) (lo d : Nat) (args : List LV) (h : Hp) : LV → Fp
  | .fn f caps => fpCallA C lo d f (solidArgs h (args ++ caps))
  | .v (.fn f caps) => fpCallA C lo d f (solidArgs h (args ++ liftV caps))
  | _ => fp0
def fpOp (C : FuncId → List TV → Option TV) (lo : Nat) (st : St) : IOp → Fp
  | .alloc d _ => ⟨[], [lo + d]⟩
  | .box d _ _ => ⟨[], [lo + d]⟩
  | .bslice d _ sz parts => ⟨fpR (solidRows st.hp st.env sz parts), (lo + d) :: fpR (solidRows st.hp st.env sz parts)⟩
  | .load _ a _ _ => ⟨fpA (a.rd st.env), []⟩
  | .iaddr _ x _ _ => ⟨fpA (x.rd st.env), []⟩
  | .slice _ x _ _ _ _ _ => ⟨fpA (x.rd st.env), []⟩
  | .store a x _ => ⟨[], fpW (solidCells st.hp (x.rd st.env).cells) (a.rd st.env)⟩
  | .append d x y _ _ _ => ⟨fpA (x.rd st.env) ++ fpA (y.rd st.env), (lo + d) :: fpA (x.rd st.env)⟩
  | .copy _ x y _ => ⟨fpA (x.rd st.env) ++ fpA (y.rd st.env), fpA (x.rd st.env)⟩
  | .b2s _ x => ⟨fpA (x.rd st.env), []⟩
  | .call d f args => fpCallF C lo d (rds st.env args) st.hp (f.rd st.env)
  | .mkslice d _ _ _ _ _ => ⟨[], [lo + d]⟩
  | .appz d _ _ _ _ _ => ⟨[], [lo + d]⟩
  | .mkmap d _ _ => ⟨[], [lo + d]⟩
  | .mget _ _ _ _ _ _ m _ => ⟨fpA (m.rd st.env), []⟩
  | .mupd _ _ vag _ m _ v => ⟨[], fpM (solidO st.hp (oneOf vag (v.rd st.env))) (m.rd st.env)⟩
  | .mdel _ _ m _ => ⟨[], fpA (m.rd st.env)⟩
  | .mlen _ m => ⟨fpA (m.rd st.env), []⟩
  | _ => fp0
def fpG (C : FuncId → List TV → Option TV) (lo : Nat) (st : St) (o : IOp) (want : Bool) : LV → Fp
  | .v (.bool b) => if b = want then fpOp C lo st o else fp0
  | _ => fp0
def fpOper (C : FuncId → List TV → Option TV) (lo : Nat) (st : St) : IOper → Fp
  | ⟨o, none⟩ => fpOp C lo st o
  | ⟨o, some (j, want)⟩ => fpG C lo st o want (st.env j)
def meets : List Nat → List Nat → Bool
  | [], _ => false
  | a :: r, bs => bs.contains a || meets r bs
/-- neither turns what the other looks at -/
def apart (a b : Fp) : Bool := !meets a.wr b.rd && !meets a.wr b.wr && !meets b.wr a.rd
/-- of an operation, against those ahead of it: those that it must not wait for must be apart -/
def apartAll (f : Fp) (ord : Nat) : List (Nat × Fp) → Bool
  | [] => true
  | (i, g) :: gs => (ord.testBit i || apart g f) && apartAll f ord gs
def stepE (b : Bool) (x : Option St) : Option St := if b then x else none
def stepD (fs : List (Nat × Fp)) (i ord : Nat) (k : List (Nat × Fp) → Option St → Option St) (st : Option St) : Fp → Option St
  | ⟨[], []⟩ => k fs st
  | ⟨[], b :: w⟩ => stepE (apartAll ⟨[], b :: w⟩ ord fs) (k ((i, ⟨[], b :: w⟩) :: fs) st)
  | ⟨a :: r, w⟩ => stepE (apartAll ⟨a :: r, w⟩ ord fs) (k ((i, ⟨a :: r, w⟩) :: fs) st)
def evOpsD (C : FuncId → List TV → Option TV) (lo : Nat) : List IOper → List Nat → Nat → List (Nat × Fp) → Option St → Option St
  | [], _, _, _, st => st
  | o :: os, n :: ord, i, fs, some st => stepD fs i n (evOpsD C lo os ord (i + 1)) (evOper C lo st o) (fpOper C lo st o)
  | _ :: _, _, _, _, _ => none

/-! ### functions -/
inductive RV where
  | tmp (t : Nat)
  | cell (t n : Nat) (ag : Bool)
structure IFn where
  body : ICode
  res : List RV
def bindArgs : Nat → List TV → Nat → LV
  | _, [] => e0
  | k, t :: ts => upd (bindArgs (k + 1) ts) k (inj t)
/-- a slice that does not begin where its block begins counts twice: it is never taken for the only one -/
def offIds (id off : Nat) : List Nat := if off = 0 then [id] else [id, id]
def cellIds : LV → List Nat
  | .s id off _ => offIds id off
  | _ => []
def cellsIds : List LV → List Nat
  | [] => []
  | l :: ls => cellIds l ++ cellsIds ls
def resId : LV → List Nat
  | .agg cs => cellsIds cs
  | l => cellIds l
def resIds : List LV → List Nat
  | [] => []
  | l :: ls => resId l ++ resIds ls
def expS (one : Bool) (off len : Nat) : Option Ob → Option TV
  | some (.arr fz e sz rows) => if one = true ∧ fz = false ∧ off = 0 then some (.sl (.own e) sz (rows.take len)) else some (.sl .shared sz ((rows.drop off).take len))
  | _ => none
def expFst : Option (TV × List Nat) → Option TV
  | some (t, _) => some t
  | none => none
def expC (h : Hp) (ids : List Nat) : LV → Option TV
  | .v (.sl (.tight e) sz []) => some (.sl (.own e) sz [])
  | .s id off len => expS (decide (ids.count id = 1)) off len (h id)
  | l => expFst (solidCell h l)
def consE : Option TV → Option (List TV) → Option (List TV)
  | some t, some ts => some (t :: ts)
  | _, _ => none
def expCs (h : Hp) (ids : List Nat) : List LV → Option (List TV)
  | [] => some []
  | l :: ls => consE (expC h ids l) (expCs h ids ls)
def expA : Option (List TV) → Option TV
  | some ts => some (.agg ts)
  | none => none
def expL (h : Hp) (ids : List Nat) : LV → Option TV
  | .agg cs => expA (expCs h ids cs)
  | .p id off => expFst (solidArg h (.p id off))
  | .fn f cs => expFst (solidArg h (.fn f cs))
  | l => expC h ids l
/-- no pointer, no function among results: else no slice counts as its own -/
def plainRes : List LV → Bool
  | [] => true
  | .p _ _ :: _ => false
  | .pe _ _ _ :: _ => false
  | .fn _ _ :: _ => false
  | _ :: ls => plainRes ls
def expLs (h : Hp) (ids : List Nat) : List LV → Option (List TV)
  | [] => some []
  | l :: ls => consE (expL h ids l) (expLs h ids ls)
def expT : Option (List TV) → Option TV
  | some [t] => some t
  | some ts => some (.tup ts)
  | none => none
def resL (st : St) : RV → Option LV
  | .tmp t => some (st.env t)
  | .cell t n ag => loadL st.hp n ag (st.env t)
def consL : Option LV → Option (List LV) → Option (List LV)
  | some l, some ls => some (l :: ls)
  | _, _ => none
def resLs (st : St) : List RV → Option (List LV)
  | [] => some []
  | r :: rs => consL (resL st r) (resLs st rs)
def expR (h : Hp) : Option (List LV) → Option TV
  | some ls => expT (expLs h (if plainRes ls then resIds ls else []) ls)
  | none => none
def finR (rs : List RV) : Option (Ex × St) → Option TV
  | some (.norm, st) => expR st.hp (resLs st rs)
  | some (.ret, st) => expR st.hp (resLs st rs)
  | _ => none
def start (args : List TV) : St := ⟨bindArgs 0 args, h0⟩

def ev (C : FuncId → List TV → Option TV) (lo : Nat) : Nat → ICode → St → Option (Ex × St)
  | 0, _, _ => none
  | _ + 1, .skip, st => some (.norm, st)
  | _ + 1, .gc g, st => some (.norm, g.run lo st)
  | _ + 1, .region ops g, st => regK lo g (evOps C lo ops (some st))
  | _ + 1, .draw ops ord g, st => regK lo g (evOpsD C lo ops ord 0 [] (some st))
  | n + 1, .seq a b, st => seqK (ev C lo n b) (ev C lo n a st)
  | n + 1, .cond c a b, st => condK (ev C lo n a) (ev C lo n b) st (c.rd st.env)
  | n + 1, .block id b, st => blockK id (ev C lo n b st)
  | n + 1, .loop b, st => seqK (ev C lo n (.loop b)) (ev C lo n b st)
  | _ + 1, .exit id, st => some (.exit id, st)
  | _ + 1, .ret, st => some (.ret, st)
  | _ + 1, .bad, _ => none

/-- a program that asks what calls come to -/
inductive Orc where
  | done (r : Option TV)
  | ask (f : FuncId) (args : List TV) (k : TV → Orc)
def orcK (k : TV → Option TV) : Option TV → Option TV
  | some r => k r
  | none => none
def Orc.run (C : FuncId → List TV → Option TV) : Orc → Option TV
  | .done r => r
  | .ask f args k => orcK (fun r => (k r).run C) (C f args)
/-- a function: its code, or what is known of it otherwise; or of what its callees come to -/
inductive FEnt where
  | code (fn : IFn)
  | ext (g : List TV → Option TV)
  | rel (g : List TV → Orc)
def evFn (C : FuncId → List TV → Option TV) (n : Nat) (args : List TV) : Option FEnt → Option TV
  | some (.code fn) => finR fn.res (ev C 0 n fn.body (start args))
  | some (.ext g) => g args
  | some (.rel g) => (g args).run C
  | none => none
def evF (F : FuncId → Option FEnt) : Nat → FuncId → List TV → Option TV
  | 0, _, _ => none
  | n + 1, f, args => evFn (evF F n) n args (F f)

end Go.Proofs.Ytehcfmohjcjmpaa.Sx
