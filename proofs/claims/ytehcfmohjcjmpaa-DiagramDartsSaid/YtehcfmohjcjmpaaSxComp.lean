/- The model's code, as the evaluator's: a function that the kernel runs. -/
import Derived.Test.YtehcfmohjcjmpaaSxDef
namespace Go.Proofs.Ytehcfmohjcjmpaa.Sx
open Go

/-- the leaves of a type, cell by cell -/
def leaves (P : Program) : Nat → TypeId → List TypeId
  | 0, _ => []
  | n + 1, t => match P.underlying t with
    | some (.struct fs) => fs.toList.flatMap fun f => leaves P n f.type
    | some (.array k e) => (List.replicate k (leaves P n e)).flatten
    | _ => [t]

def cNil (P : Program) : Option TypeDesc → Option TV
  | some (.slice e) => some (.sl (.tight e) (P.cellsOf e) [])
  | _ => none
def cV (P : Program) (t : TypeId) : Value → Option TV
  | .int k n => some (.int k n)
  | .bool b => some (.bool b)
  | .string s => some (.str s)
  | .nilFunc => some .nilfn
  | .slice none 0 0 => cNil P (P.underlying t)
  | _ => none

def cVs (P : Program) : List TypeId → List Value → Option (List TV)
  | [], [] => some []
  | t :: ts, v :: vs => match cV P t v, cVs P ts vs with
    | some x, some xs => some (x :: xs)
    | _, _ => none
  | _, _ => none

/-- the zero cells of a type -/
def zeroT (P : Program) (t : TypeId) : Option (List TV) :=
  match (P.info? t).bind (·.zero) with
  | some z => cVs P (leaves P 20 t) z.cells.toList
  | none => none

def isUndef : Value → Bool
  | .tuple vs => vs.isEmpty
  | _ => false
def cC : Option TV → Option X
  | some x => some (.c (.v x))
  | none => none
def cX (P : Program) (t : TypeId) : Operand → Option X
  | .tmp i => some (.t i)
  | .const v => if isUndef v then some (.c (.tup [])) else cC (cV P t v)
  | .func f => some (.fn f)
  | .global _ => none

def isAggB (P : Program) (t : TypeId) : Bool :=
  match P.underlying t with
  | some (.struct _) => true
  | some (.array _ _) => true
  | _ => false

/-- a type that is known, of one cell if it is no struct or array -/
def plainTy (P : Program) (t : TypeId) (n : Nat) : Bool := (P.underlying t).isSome && (isAggB P t || n == 1)
def size? (P : Program) (t : TypeId) : Option Nat := (P.info? t).map (·.size)

def cXs (P : Program) : List TypeId → List Operand → Option (List X)
  | [], [] => some []
  | t :: ts, x :: xs => match cX P t x, cXs P ts xs with
    | some a, some r => some (a :: r)
    | _, _ => none
  | _, _ => none

/-- a struct's fields: where, how many cells, of which type -/
def placesOf (P : Program) : List Field → Option (List (Nat × Nat))
  | [] => some []
  | f :: fs => match size? P f.type, placesOf P fs with
    | some n, some r => some ((f.offset, n) :: r)
    | _, _ => none
def partOf (P : Program) (fs : List Field) (pl : List (Nat × Nat)) (i : Nat) (x : Operand) : Option (Nat × Nat × X) :=
  match fs[i]?, pl[i]? with
  | some f, some (off, n + 1) => match cX P f.type x with
    | some y => some (off, n + 1, y)
    | none => none
  | _, _ => none
def partsOf (P : Program) (fs : List Field) (pl : List (Nat × Nat)) : List (Nat × Operand) → Option (List (Nat × Nat × X))
  | [] => some []
  | (i, x) :: ps => match partOf P fs pl i x, partsOf P fs pl ps with
    | some p, some r => some (p :: r)
    | _, _ => none
def apartsOf (P : Program) (e : TypeId) (n : Nat) : List (Nat × Operand) → Option (List (Nat × Nat × X))
  | [] => some []
  | (i, x) :: ps => match cX P e x, apartsOf P e n ps with
    | some p, some r => some ((i * n, n, p) :: r)
    | _, _ => none
/-- a slice's parts, one behind the other from k on -/
def rowsFrom (P : Program) (e : TypeId) (k : Nat) : List (Nat × Operand) → Option (List X)
  | [] => some []
  | (i, x) :: ps => if i = k then match cX P e x, rowsFrom P e (k + 1) ps with
    | some p, some r => some (p :: r)
    | _, _ => none else none

/-- fields that lie one behind the other, compared by k -/
def flatFs (P : Program) (k : TypeId → Option (List Lk)) : List Field → Nat → Option (List Lk)
  | [], _ => some []
  | f :: fs, off => match k f.type, flatFs P k fs (off + (size? P f.type).getD 0) with
    | some ks, some r => if f.name ≠ "_" ∧ f.offset = off ∧ size? P f.type = some ks.length ∧ (isAggB P f.type = false → ks.length = 1) ∧ 0 < ks.length then some (ks ++ r) else none
    | _, _ => none
/-- types of which '==' looks at numbers, bools and strings alone: their leaves -/
def flatEq (P : Program) : Nat → TypeId → Option (List Lk)
  | 0, _ => none
  | n + 1, t => match P.underlying t with
    | some .bool => some [.b]
    | some (.int _) => some [.i]
    | some .string => some [.z]
    | some (.struct fs) => if P.stoodInHeld t then none else flatFs P (flatEq P n) fs.toList 0
    | _ => none

def cOX (P : Program) (t : TypeId) : Option Operand → Option (Option X)
  | none => some none
  | some x => (cX P t x).map some

def cBin (P : Program) (d : Nat) (op : BinOp) (t : TypeId) (x y : Operand) (yt : TypeId) : Option IOp :=
  match P.underlying t with
  | some (.struct _) =>
    if P.eqGuardType P.depth t then none else match op, flatEq P 10 t, cX P t x, cX P t y with
      | .eql, some ks, some a, some b => some (.eqs d false ks a b)
      | .neq, some ks, some a, some b => some (.eqs d true ks a b)
      | _, _, _, _ => none
  | some (.int _) => match cX P t x, cX P yt y with
    | some a, some b => some (.bin d false op a b)
    | _, _ => none
  | some .bool => match cX P t x, cX P t y with
    | some a, some b => some (.bin d true op a b)
    | _, _ => none
  | some .string => match cX P t x, cX P t y with
    | some a, some b => some (.bin d false op a b)
    | _, _ => none
  | _ => none

def sliceOrString (P : Program) (t : TypeId) : Bool :=
  match P.underlying t with
  | some (.slice _) => true
  | some .string => true
  | _ => false

def intTy (P : Program) (t : TypeId) : Bool :=
  match P.underlying t with
  | some (.int _) => true
  | _ => false
/-- the zero value is an aggregate just if the type is one -/
def zeroOk (P : Program) (t : TypeId) : Bool :=
  match (P.info? t).bind (·.zero) with
  | some (.agg _) => isAggB P t
  | some _ => !isAggB P t
  | none => false
/-- the literal nil of a slice, of a pointer -/
def isNilC (P : Program) (t : TypeId) : Operand → Option Bool
  | .const (.slice none 0 0) => match P.underlying t with
    | some (.slice _) => some false
    | _ => none
  | .const (.pointer none) => match P.underlying t with
    | some (.pointer _) => some true
    | _ => none
  | _ => none

def cCall (P : Program) (d : Nat) (ty : TypeId) (c : Call) : Option IOp :=
  match c.callee, c.args.toList, c.argTypes.toList with
  | .builtin .len, [x], [t] => match P.underlying t, cX P t x with
    | some (.slice _), some a => some (.len d false a)
    | some .string, some a => some (.len d true a)
    | some (.map _ _), some a => some (.mlen d a)
    | _, _ => none
  | .builtin .cap, [x], [t] => match P.underlying t, cX P t x with
    | some (.slice _), some a => some (.cap d a)
    | _, _ => none
  | .builtin .append, [x, y], [t, u] => match P.underlying t with
    | some (.slice e) => match P.info? e, zeroT P e, cX P t x, cX P u y with
      | some i, some z, some a, some b => if z.length = i.size ∧ 0 < i.bytes ∧ 0 < i.size then (if sliceOrString P u = true then some (.append d a b e i.size i.bytes) else if intTy P u = true then some (.appz d a b e z i.bytes) else none) else none
      | _, _, _, _ => none
    | _ => none
  | .builtin .copy, [x, y], [t, u] => match P.underlying t with
    | some (.slice e) => match size? P e, cX P t x, cX P u y with
      | some n, some a, some b => some (.copy d a b n)
      | _, _, _ => none
    | _ => none
  | .builtin .min, xs, ts => (cXs P ts xs).map fun ys => .mn d ys
  | .builtin .max, xs, ts => (cXs P ts xs).map fun ys => .mx d ys
  | .value f, xs, ts => match cX P ty f, cXs P ts xs with
    | some g, some ys => some (.call d g ys)
    | _, _ => none
  | _, _, _ => none

/-- the zero value of a type of one cell that is no tree -/
def zeroM (P : Program) (t : TypeId) : Bool :=
  match (P.info? t).bind (·.zero) with
  | some (.map none) => true
  | some (.pointer none) => true
  | _ => false
def cNilBin (P : Program) (d : Nat) (op : BinOp) (t : TypeId) (ptr : Bool) (x : Operand) : Option IOp :=
  match op, cX P t x with
  | .eql, some a => some (.isnil d false ptr a)
  | .neq, some a => some (.isnil d true ptr a)
  | _, _ => none
def cOp (P : Program) (d : Nat) (ty : TypeId) : Op → Option IOp
  | .move x => (cX P ty x).map fun a => .mv d a
  | .assign x => (cX P ty x).map fun a => .mv d a
  | .pick c a b => match cX P ty c, cX P ty a, cX P ty b with
    | some c, some a, some b => some (.pick d c a b)
    | _, _, _ => none
  | .alloc e => match zeroT P e with
    | some zs => some (.alloc d (liftV zs))
    | none => if zeroM P e then some (.alloc d [.u]) else none
  | .box e x => match size? P e, cX P e x with
    | some (n + 1), some a => some (.box d a (n + 1))
    | _, _ => none
  | .build t parts => match P.underlying t, zeroT P t with
    | some (.struct fs), some zs => match placesOf P fs.toList with
      | some pl => match partsOf P fs.toList pl parts.toList with
        | some ps => some (.build d (liftV zs) ps)
        | none => none
      | none => none
    | some (.array _ e), some zs => match size? P e with
      | some (n + 1) => match apartsOf P e (n + 1) parts.toList with
        | some ps => some (.build d (liftV zs) ps)
        | none => none
      | _ => none
    | _, _ => none
  | .buildSlice t len parts => match P.underlying t with
    | some (.slice e) => match size? P e, rowsFrom P e 0 parts.toList, zeroT P e with
      | some n, some rs, some _ => if rs.length = len ∧ len * n ≤ 16777216 ∧ 0 < n then some (.bslice d e n rs) else none
      | _, _, _ => none
    | _ => none
  | .load t a => match size? P t, cX P ty a with
    | some n, some x => if plainTy P t n then some (.load d x n (isAggB P t)) else none
    | _, _ => none
  | .nilCheck x => (cX P ty x).map fun a => .nchk d a
  | .binOp op t x y yt => match isNilC P t y with
    | some ptr => cNilBin P d op t ptr x
    | none => cBin P d op t x y yt
  | .unOp op t x => (cX P t x).map fun a => .un d op a
  | .convert src dst x => match P.underlying src, P.underlying dst, cX P src x with
    | some (.int _), some (.int k), some a => some (.conv d k a)
    | some (.slice e), some .string, some a => match P.underlying e with
      | some (.int .u8) => some (.b2s d a)
      | _ => none
    | _, _, _ => none
  | .slice t x lo hi mx => match P.underlying t with
    | some (.slice e) => match size? P e, cX P t x, cOX P t lo, cOX P t hi, cOX P t mx with
      | some n, some a, some l, some h, some m => if mx.isSome && hi.isNone then none else some (.slice d a l h m e n)
      | _, _, _, _, _ => none
    | _ => none
  | .fieldAddr t x f => match P.underlying t, cX P ty x with
    | some (.struct fs), some a => match fs[f]? with
      | some g => match size? P g.type with
        | some (_ + 1) => some (.faddr d a g.offset)
        | _ => none
      | none => none
    | _, _ => none
  | .field t x f => match P.underlying t, cX P t x with
    | some (.struct fs), some a => match fs[f]? with
      | some g => match size? P g.type with
        | some n => if plainTy P g.type n then some (.fld d a g.offset n (isAggB P g.type)) else none
        | none => none
      | none => none
    | _, _ => none
  | .indexAddr t x i => match P.underlying t with
    | some (.slice e) => match size? P e, cX P t x, cX P t i with
      | some n, some a, some b => some (.iaddr d a b n)
      | _, _, _ => none
    | some (.array k e) => match size? P e, cX P t x, cX P t i with
      | some n, some a, some b => some (.aaddr d a b k n)
      | _, _, _ => none
    | _ => none
  | .index t x i => match P.underlying t with
    | some (.array k e) => match size? P e, cX P t x, cX P t i with
      | some n, some a, some b => if plainTy P e n then some (.ixa d a b k n (isAggB P e)) else none
      | _, _, _ => none
    | some .string => match cX P t x, cX P t i with
      | some a, some b => some (.ixs d a b)
      | _, _ => none
    | _ => none
  | .extract x i => (cX P ty x).map fun a => .ext d a i
  | .makeFunc (.func f) first caps => if first.isEmpty then (cXs P (List.replicate caps.size ty) caps.toList).map fun cs => .mkfn d f cs else none
  | .makeSlice t l c => match P.underlying t with
    | some (.slice e) => match P.info? e, zeroT P e, cX P ty l, cX P ty c with
      | some i, some z, some a, some b => if z.length = i.size ∧ 0 < i.bytes ∧ 0 < i.size then some (.mkslice d a b e z i.bytes) else none
      | _, _, _, _ => none
    | _ => none
  | .call c => cCall P d ty c
  | .makeMap t none => match P.underlying t with
    | some (.map k e) => some (.mkmap d (isAggB P k) (isAggB P e))
    | _ => none
  | .lookup t x i cok => match P.underlying t with
    | some (.map k e) => match flatEq P 10 k, zeroT P e, cX P t x, cX P k i with
      | some ks, some zs, some a, some b => if plainTy P e zs.length && zeroOk P e then some (.mget d ks (isAggB P k) (isAggB P e) zs cok a b) else none
      | _, _, _, _ => none
    | _ => none
  | _ => none

/-- an operation: with a destination, of n slots, or a store -/
def cDel (P : Program) (c : Call) : Option IOp :=
  match c.callee, c.args.toList, c.argTypes.toList with
  | .builtin .delete, [x, y], [t, _] => match P.underlying t with
    | some (.map k _) => match flatEq P 10 k, cX P t x, cX P k y with
      | some ks, some a, some b => some (.mdel ks (isAggB P k) a b)
      | _, _, _ => none
    | _ => none
  | _, _, _ => none
def cOpd (P : Program) (n : Nat) (o : Oper) : Option IOp :=
  match o.dst with
  | some d => if d < n then cOp P d o.type o.op else none
  | none => match o.op with
    | .store t a x => match size? P t, cX P o.type a, cX P t x with
      | some (n + 1), some p, some v => some (.store p v (n + 1))
      | _, _, _ => none
    | .mapUpdate t m k v => match P.underlying t with
      | some (.map kt e) => match flatEq P 10 kt, size? P e, cX P t m, cX P kt k, cX P e v with
        | some ks, some n, some a, some b, some c => if plainTy P e n then some (.mupd ks (isAggB P kt) (isAggB P e) n a b c) else none
        | _, _, _, _, _ => none
      | _ => none
    | .call c => cDel P c
    | _ => none

def dstOf (ops : Array Oper) (n j : Nat) : Option Nat :=
  match ops[j]? with
  | some p => match p.dst with
    | some d => if d < n then some d else none
    | none => none
  | none => none
def cGuard (ops : Array Oper) (n : Nat) : Option (Nat × Bool) → Option (Option (Nat × Bool))
  | none => some none
  | some (j, b) => match dstOf ops n j with
    | some d => some (some (d, b))
    | none => none

def cOper (P : Program) (n : Nat) (ops : Array Oper) (o : Oper) : IOper :=
  match cOpd P n o, cGuard ops n o.guard with
  | some i, some g => ⟨i, g⟩
  | _, _ => ⟨.bad, none⟩

def cOpers (P : Program) (n : Nat) (ops : Array Oper) : List Oper → List IOper
  | [] => []
  | o :: os => cOper P n ops o :: cOpers P n ops os

def look (i : Nat) : List (Nat × GC) → GC
  | [] => ⟨[], []⟩
  | (a, g) :: r => if a = i then g else look i r

/-! ### regions whose order is drawn -/
/-- the operations that one waits for, all of them ahead of it -/
def waits (o : Oper) : List Nat := (o.after.toList.filter (Region.binds .any)).map (·.on)
/-- the bits of s below n: each is waited for, or what one waited for waits for -/
def bitsOk (ws : List Nat) (ord : List Nat) (s : Nat) : Nat → Bool
  | 0 => true
  | n + 1 => (!s.testBit n || ws.contains n || ws.any fun e => (ord.getD e 0).testBit n) && bitsOk ws ord s n
def free2 (a b : IOper) : Bool := match a.op.dst with
  | some d => !b.reads.contains d && b.op.dst != some d
  | none => true
def freeAll (s : Nat) (o : IOper) : Nat → List IOper → Bool
  | _, [] => true
  | i, p :: ps => (s.testBit i || (free2 p o && free2 o p)) && freeAll s o (i + 1) ps
def drawOk (ord : List Nat) : Nat → List IOper → List Oper → List IOper → Bool
  | _, _, [], [] => true
  | k, ahead, o :: os, i :: is => ((waits o).all fun e => decide (e < k)) && decide (ord.getD k 0 < 2 ^ k) && bitsOk (waits o) ord (ord.getD k 0) k && freeAll (ord.getD k 0) i 0 ahead && drawOk ord (k + 1) (ahead ++ [i]) os is
  | _, _, _, _ => false

def nodup : List Nat → Bool
  | [] => true
  | a :: r => !r.contains a && nodup r
/-- names apart: old from old, new from new -/
def GC.ok (g : GC) : Bool := nodup (g.ids.map (·.1)) && nodup (g.ids.map (·.2))
def orBad (b : Bool) (c : ICode) : ICode := if b then c else .bad

/-- code; n: slots; A: what is kept behind a region; B: ahead of a block's end -/
def cCode (P : Program) (n : Nat) (A B : List (Nat × GC)) : Code → ICode
  | .skip => .skip
  | .region id ops false => orBad (look id A).ok (.region (cOpers P n ops ops.toList) (look id A))
  | .region id ops true => orBad ((look id A).ok && drawOk (Region.before ops).toList 0 [] ops.toList (cOpers P n ops ops.toList)) (.draw (cOpers P n ops ops.toList) (Region.before ops).toList (look id A))
  | .seq a b => .seq (cCode P n A B a) (cCode P n A B b)
  | .cond c a b => match cX P 0 c with
    | some x => .cond x (cCode P n A B a) (cCode P n A B b)
    | none => .bad
  | .block id b => .block id (cCode P n A B b)
  | .loop b => .loop (cCode P n A B b)
  | .exit id => orBad (look id B).ok (.seq (.gc (look id B)) (.exit id))
  | .ret => .ret
  | .scope b => cCode P n A B b
  | .label _ => .skip
  | _ => .bad

def cRes (P : Program) : ResultVar → RV
  | .tmp t => .tmp t
  | .cell t ty => .cell t (P.cellsOf ty) (isAggB P ty)

/-- a result that lies in a cell: its type's size is known -/
def resOk (P : Program) : ResultVar → Bool
  | .tmp _ => true
  | .cell _ ty => match size? P ty with
    | some n => plainTy P ty n && n == P.cellsOf ty
    | none => false

def cFn (P : Program) (A B : List (Nat × GC)) (fn : Func) : IFn :=
  { body := match fn.body with | some c => orBad (fn.results.toList.all (resOk P)) (cCode P fn.ntmps A B c) | none => .bad, res := fn.results.toList.map (cRes P) }

end Go.Proofs.Ytehcfmohjcjmpaa.Sx
