/- The abstract machine: values, heaps and a function that runs the loaded code on them.
   Nothing here is about one program; conditions: none. -/
import Derived.Calls
import Derived.Orders
import Derived.LoopN
import Derived.Maps.AppendAt
import Derived.KernelRfl
namespace Go.AM
open Go

/-! ### Values -/
inductive AV where
  | v (x : Value)
  | agg (l : List AV)
  | tup (l : List AV)
  | lit (k : Nat) (full : Bool) (l : List AV)
  | sl (id gen off len : Nat)
  | isl (id gen i : Nat) (path : List Nat) (o k off len n : Nat)
  | ptr (id gen i : Nat) (path : List Nat) (o : Nat)
  | rop (x : AV)
  | map (id : Nat)
  | fn (f : Fn) (first captured : List AV)
  | any
  deriving Inhabited

/-- Of a row: whether it is told whole; its elements' type. -/
structure Tag where
  full : Bool
  ty : TypeId
  deriving Inhabited

inductive Row where
  | row (k gen : Nat) (els : List AV) (exact : Tag)
  | map (es : List (AV × AV × Nat)) (clock : Nat)
  | dead
  deriving Inhabited

abbrev Heap := List Row
abbrev FR := List (Nat × AV)

def get : FR → Nat → Option AV
  | [], _ => none
  | (k, x) :: r, t => bif Nat.beq k t then some x else get r t

/-- A scalar that holds no address. -/
def free : Value → Bool
  | .bool _ | .int _ _ | .float _ _ | .complex _ _ _ | .string _ => true
  | .pointer none | .map none | .chan none | .nilFunc | .nilIface => true
  | .slice none 0 0 => true
  | _ => false

mutual
def leafs : AV → Nat
  | .agg l => leafsL l
  | _ => 1
def leafsL : List AV → Nat
  | [] => 0
  | x :: l => leafs x + leafsL l
end

mutual
/-- No id of the heap stands in it. -/
def idfree : AV → Bool
  | .v _ => true
  | .agg l | .tup l | .lit _ _ l => idfreeL l
  | .rop x => idfree x
  | .fn _ a b => idfreeL a && idfreeL b
  | .any => true
  | _ => false
def idfreeL : List AV → Bool
  | [] => true
  | x :: l => idfree x && idfreeL l
end

mutual
/-- The concrete value, where there is no address. -/
def toV : AV → Option Value
  | .v x => bif free x then some x else none
  | .agg l => match toVs l with
    | some cs => some (.agg cs.toArray)
    | none => none
  | _ => none
def toVs : List AV → Option (List Value)
  | [] => some []
  | x :: l => match toV x, toVs l with
    | some y, some cs => some (y.cells.toList ++ cs)
    | _, _ => none
end

/-- A run that asks nothing of the world. -/
def prun {α : Type} (P : Program) : Sem α → Option α
  | .pure a => some a
  | .program k => prun P (k P)
  | .mark _ k => prun P k
  | .choose q k => bif q.forced then prun P (k 0) else none
  | _ => none

def isTupA : AV → Bool
  | .tup _ => true
  | _ => false

def isAggA : AV → Bool
  | .agg _ => true
  | _ => false

def szOf (P : Program) (t : TypeId) : Option Nat := (P.info? t).map (·.size)
def aggT (P : Program) (t : TypeId) : Option Bool := match P.underlying t with
  | some (.struct _) => some true
  | some (.array _ _) => some true
  | some _ => some false
  | none => none

/-! ### Places -/
mutual
def nav : AV → List Nat → Nat → Option AV
  | x, [], o => bif Nat.beq o 0 then some x else none
  | .agg l, f :: p, o => navL l f p o
  | _, _ :: _, _ => none
def navL : List AV → Nat → List Nat → Nat → Option AV
  | [], _, _, _ => none
  | x :: _, 0, p, o => nav x p o
  | x :: l, f + 1, p, o => bif Nat.ble (leafs x) o then navL l f p (o - leafs x) else none
end

mutual
/-- What stands there turned, its shape kept. -/
def put : AV → List Nat → Nat → AV → Option AV
  | x, [], o, y => bif Nat.beq o 0 && Nat.beq (leafs x) (leafs y) then some y else none
  | .agg l, f :: p, o, y => match putL l f p o y with
    | some l' => some (.agg l')
    | none => none
  | _, _ :: _, _, _ => none
def putL : List AV → Nat → List Nat → Nat → AV → Option (List AV)
  | [], _, _, _, _ => none
  | x :: l, 0, p, o, y => match put x p o y with
    | some x' => some (x' :: l)
    | none => none
  | x :: l, f + 1, p, o, y => bif Nat.ble (leafs x) o then
      match putL l f p (o - leafs x) y with
      | some l' => some (x :: l')
      | none => none
    else none
end

/-- The cells of one or more elements, written out: consecutive elements of a list turned. -/
def setFrom : List AV → Nat → List AV → List AV
  | l, _, [] => l
  | l, i, y :: ys => setFrom (l.set i y) (i + 1) ys

def allK (k : Nat) : List AV → Bool
  | [] => true
  | x :: l => Nat.beq (leafs x) k && allK k l

/-! ### The environment -/
structure Eff where
  ds : List Nat
  ls : List Nat
  q : Bool

structure Env where
  P : Program
  zeros : List (TypeId × AV)
  masks : FuncId → List Nat
  rows : FuncId → Bool
  keep : FuncId → Bool
  pairs : FuncId → Nat → List (Nat × Nat)
  ov : FuncId → Option (List AV → Heap → Option (AV × Heap × Eff))

def assoc : List (TypeId × AV) → TypeId → Option AV
  | [], _ => none
  | (k, x) :: r, t => bif Nat.beq k t then some x else assoc r t

def Env.zero (E : Env) (t : TypeId) : Option AV := assoc E.zeros t

def ins (a : Nat) (l : List Nat) : List Nat := bif l.elem a then l else a :: l

def ev (fr : FR) : Operand → Option AV
  | .tmp t => get fr t
  | .const x => bif free x then some (.v x) else none
  | .global _ => none
  | .func f => some (.fn (.func f) [] [])

def evL (fr : FR) : List Operand → Option (List AV)
  | [] => some []
  | x :: l => match ev fr x, evL fr l with
    | some y, some ys => some (y :: ys)
    | _, _ => none

def evP (fr : FR) : List (Nat × Operand) → Option (List (Nat × AV))
  | [] => some []
  | (i, x) :: l => match ev fr x, evP fr l with
    | some y, some ys => some ((i, y) :: ys)
    | _, _ => none

/-- Parts laid into a struct or a row; 'pl': where each begins, and how many cells it has. -/
def setParts (pl : Nat → Option (Nat × Nat)) : List AV → List (Nat × AV) → Option (List AV)
  | l, [] => some l
  | l, (i, y) :: ps => match pl i with
    | some (off, sz) => bif Nat.beq (leafs y) sz && !isTupA y then
        match putL l i [] off y with
        | some l' => setParts pl l' ps
        | none => none
      else none
    | none => none

def placesE (P : Program) : List Field → Option (List (Nat × Nat))
  | [] => some []
  | f :: fs => match szOf P f.type, placesE P fs with
    | some n, some l => some ((f.offset, n) :: l)
    | _, _ => none

/-- A slice's elements, and how many cells each has. -/
def elsOf (h : Heap) : AV → Option (Nat × List AV)
  | .lit k _ l => some (k, l)
  | .sl id gen off len => match h[id]? with
    | some (.row k g els _) => bif Nat.beq g gen && Nat.ble (off + len) els.length then some (k, (els.drop off).take len) else none
    | _ => none
  | .isl id gen i path o k off len n => match h[id]? with
    | some (.row _ g els _) => bif Nat.beq g gen then
        match els[i]? with
        | some x => match nav x path o with
          | some (.agg l) => bif Nat.beq l.length n && allK k l && Nat.ble (off + len) n then some (k, (l.drop off).take len) else none
          | _ => none
        | none => none
      else none
    | _ => none
  | _ => none

def sliceLen : AV → Option Nat
  | .lit _ _ l => some l.length
  | .sl _ _ _ len => some len
  | .isl _ _ _ _ _ _ _ len _ => some len
  | .v (.slice none 0 0) => some 0
  | _ => none

def byteOf? : AV → Option UInt8
  | .v (.int .u8 n) => some (UInt8.ofNat n.toNat)
  | _ => none

def bytesL : List AV → Option (List UInt8)
  | [] => some []
  | x :: l => match byteOf? x, bytesL l with
    | some b, some bs => some (b :: bs)
    | _, _ => none

def ofBytes (l : List UInt8) : List AV := l.map fun b => .v (.int .u8 b.toNat)

def strOf (h : Heap) (x : AV) : Option ByteArray :=
  match x with
  | .v (.slice none 0 0) => some ByteArray.empty
  | .v (.string s) => some s
  | x => match elsOf h x with
    | some (k, l) => bif Nat.beq k 1 then
        match bytesL l with
        | some bs => some ⟨bs.toArray⟩
        | none => none
      else none
    | none => none

def intOf : AV → Option Int
  | .v (.int _ n) => some n
  | _ => none

def vInt (n : Nat) : AV := .v (.int .i64 n)

/-! ### One operation -/
def pure1 (x : Option Value) : Option AV := match x with
  | some y => bif free y then some (.v y) else none
  | none => none

/-- Held against nil. -/
def nilEq (d : TypeDesc) (x y : AV) : Option Bool :=
  match d, x, y with
  | .pointer _, .ptr .., .v (.pointer none) => some false
  | .pointer _, .rop _, .v (.pointer none) => some false
  | .pointer _, .v (.pointer none), .ptr .. => some false
  | .pointer _, .v (.pointer none), .rop _ => some false
  | .slice _, .sl .., .v (.slice none 0 0) => some false
  | .slice _, .lit .., .v (.slice none 0 0) => some false
  | .slice _, .isl .., .v (.slice none 0 0) => some false
  | .map _ _, .map _, .v (.map none) => some false
  | .map _ _, .v (.map none), .map _ => some false
  | .func _ _ _, .fn .., .v .nilFunc => some false
  | _, _, _ => none

/-- Two pointers to the same place. -/
def ptrSame (P : Program) (d : TypeDesc) (x y : AV) : Bool :=
  match d, x, y with
  | .pointer e, .ptr id gen i _ o, .ptr id' gen' i' _ o' => (match szOf P e with
      | some n => Nat.ble 1 n
      | none => false) && Nat.beq id id' && Nat.beq gen gen' && Nat.beq i i' && Nat.beq o o'
  | _, _, _ => false

/-- Of a place: its row's type, how many elements are told, and where it lies. -/
def placeE (P : Program) (h : Heap) (id gen i o : Nat) : Option (TypeId × Nat × Nat) :=
  match h[id]? with
  | some (.row k g els ex) => bif Nat.beq g gen && Nat.blt i els.length && Nat.blt o k && Nat.beq (P.cellsOf ex.ty) k then some (ex.ty, els.length, i * k + o) else none
  | _ => none

/-- A pointer told as another one. -/
def convPtr (P : Program) (h : Heap) (s t : TypeId) (a : AV) : Option AV :=
  match P.underlying s, P.underlying t, a with
  | some (.pointer d), some .unsafePointer, .ptr id gen i p o => match placeE P h id gen i o, szOf P d with
    | some _, some n => bif Nat.ble 1 n then some (.ptr id gen i p o) else none
    | _, _ => none
  | some .unsafePointer, some (.pointer u), .ptr id gen i p o => match placeE P h id gen i o, szOf P u with
    | some (e, c, off), some n => bif Nat.ble 1 n && liesAt P P.depth e c off u 1 then some (.ptr id gen i p o) else none
    | _, _ => none
  | _, _, _ => none

def binE (P : Program) (op : BinOp) (t : TypeId) (ox oy : Operand) (x y : AV) : Option AV :=
  match toV x, toV y with
  | some a, some b => pure1 (prun P (do eqGuard op t ox oy a b; binOp op t a b))
  | _, _ => match op, P.underlying t with
    | .eql, some d => match nilEq d x y with
      | some b => some (.v (.bool b))
      | none => bif ptrSame P d x y then some (.v (.bool true)) else none
    | .neq, some d => match nilEq d x y with
      | some b => some (.v (.bool !b))
      | none => bif ptrSame P d x y then some (.v (.bool false)) else none
    | _, _ => none

abbrev Res := Option (AV × Heap)

def newRow (h : Heap) (k : Nat) (els : List AV) (exact : Tag) : Heap := h ++ [.row k 0 els exact]

def lookAt (h : Heap) : AV → Option AV
  | .ptr id gen i p o => match h[id]? with
    | some (.row _ g els _) => bif Nat.beq g gen then
        match els[i]? with
        | some x => nav x p o
        | none => none
      else none
    | _ => none
  | .rop x => some x
  | _ => none

/-- A part that has the type's size and shape. -/
def partE (P : Program) (t : TypeId) (y : Option AV) : Option AV :=
  match y, szOf P t, aggT P t with
  | some y, some n, some b => bif Nat.beq (leafs y) n && (b == isAggA y) then some y else none
  | _, _, _ => none

def loadE (P : Program) (h : Heap) (t : TypeId) (a : AV) : Option AV := partE P t (lookAt h a)

def storeE (P : Program) (h : Heap) (t : TypeId) (a x : AV) : Option (Heap × Nat) :=
  match a, szOf P t with
  | .ptr id gen i p o, some n => match h[id]? with
    | some (.row k g els ex) => bif Nat.beq g gen && Nat.beq (leafs x) n && !isTupA x then
        match els[i]? with
        | some z => match put z p o x with
          | some z' => some (h.set id (.row k g (els.set i z') ex), id)
          | none => none
        | none => none
      else none
    | _ => none
  | _, _ => none

def fieldOf (P : Program) (t : TypeId) (f : Nat) : Option (Nat × Nat) := match P.underlying t with
  | some (.struct fs) => match fs[f]? with
    | some d => match szOf P d.type with
      | some n => some (d.offset, n)
      | none => none
    | none => none
  | _ => none

def fieldAddrE (P : Program) (t : TypeId) (a : AV) (f : Nat) : Option AV :=
  match fieldOf P t f with
  | some (off, n) => bif Nat.beq n 0 then none else
    match a with
    | .ptr id gen i p o => some (.ptr id gen i (p ++ [f]) (o + off))
    | .rop (.agg l) => match navL l f [] off with
      | some y => some (.rop y)
      | none => none
    | _ => none
  | none => none

def fieldE (P : Program) (t : TypeId) (a : AV) (f : Nat) : Option AV :=
  match a, P.underlying t with
  | .agg l, some (.struct fs) => match fs[f]? with
    | some d => partE P d.type (navL l f [] d.offset)
    | none => none
  | _, _ => none

/-- An index within bounds. -/
def idx (ix : AV) (len : Nat) : Option Nat := match ix with
  | .v (.int _ n) => bif decide (0 ≤ n) && decide (n < len) then some n.toNat else none
  | _ => none

def indexAddrE (P : Program) (h : Heap) (t : TypeId) (a ix : AV) : Option AV :=
  match P.underlying t with
  | some (.array len e) => match szOf P e, idx ix len with
    | some k, some j => match a with
      | .ptr id gen i p o => some (.ptr id gen i (p ++ [j]) (o + j * k))
      | .rop (.agg l) => match navL l j [] (j * k) with
        | some y => some (.rop y)
        | none => none
      | _ => none
    | _, _ => none
  | some (.slice e) => match szOf P e, a with
    | some k, .lit k' _ l => match idx ix l.length with
      | some j => bif Nat.beq k k' then
          match l[j]? with
          | some y => some (.rop y)
          | none => none
        else none
      | none => none
    | some k, .sl id gen off len => match idx ix len, h[id]? with
      | some j, some (.row k' g _ _) => bif Nat.beq k k' && Nat.beq g gen then some (.ptr id gen (off + j) [] 0) else none
      | _, _ => none
    | some k, .isl id gen i p o k' off len _ => match idx ix len with
      | some j => bif Nat.beq k k' then some (.ptr id gen i (p ++ [off + j]) (o + (off + j) * k)) else none
      | none => none
    | _, _ => none
  | _ => none

def indexE (P : Program) (t : TypeId) (a ix : AV) : Option AV :=
  match P.underlying t, a with
  | some (.array len e), .agg l => match szOf P e, idx ix len with
    | some k, some j => partE P e (navL l j [] (j * k))
    | _, _ => none
  | some .string, .v (.string s) => match idx ix s.size with
    | some j => match s[j]? with
      | some b => some (.v (.int .u8 b.toNat))
      | none => none
    | none => none
  | _, _ => none

def bound (x : Option AV) (dflt most : Nat) : Option Nat := match x with
  | none => some dflt
  | some (.v (.int _ n)) => bif decide (0 ≤ n) && decide (n ≤ most) then some n.toNat else none
  | _ => none

/-- A slice expression: 'lo', 'hi' (each may lack), no third index (a third one: what comes is not told). -/
def sliceE (P : Program) (h : Heap) (t : TypeId) (a : AV) (lo hi mx : Option AV) : Option AV :=
  bif mx.isSome && hi.isNone then none else
  match P.underlying t with
  | some .string => match a, mx with
    | .v (.string s), none => match bound hi s.size s.size with
      | some q => match bound lo 0 q with
        | some p => some (.v (.string (s.extract p q)))
        | none => none
      | none => none
    | _, _ => none
  | some (.slice e) => match a, szOf P e with
    | .v (.slice none 0 0), some _ => match bound mx 0 0 with
      | some _ => match bound hi 0 0 with
        | some q => match bound lo 0 q with
          | some _ => some (.v (.slice none 0 0))
          | none => none
        | none => none
      | none => none
    | .lit k full l, some k' => match bound mx l.length l.length with
      | some m => match bound hi l.length m with
        | some q => match bound lo 0 q with
          | some p => bif Nat.beq k k' then some (.lit k (bif mx.isNone then full && Nat.beq q l.length else Nat.beq q m) ((l.take q).drop p)) else none
          | none => none
        | none => none
      | none => none
    | .sl id gen off len, some k => match h[id]? with
      | some (.row k' g els _) => bif Nat.beq g gen && Nat.beq k k' then
          match bound mx (els.length - off) (els.length - off) with
          | some m => match bound hi len m with
            | some q => match bound lo 0 q with
              | some p => some (bif mx.isNone then .sl id gen (off + p) (q - p) else bif Nat.beq p m then .lit k true [] else .any)
              | none => none
            | none => none
          | none => none
        else none
      | _ => none
    | .isl id gen i path o k' off len n, some k => match bound mx (n - off) (n - off) with
      | some m => match bound hi len m with
        | some q => match bound lo 0 q with
          | some p => bif Nat.beq k k' && mx.isNone then some (.isl id gen i path o k (off + p) (q - p) n) else none
          | none => none
        | none => none
      | none => none
    | _, _ => none
  | some (.array n e) => match szOf P e, mx with
    | some k, none => match bound hi n n with
      | some q => match bound lo 0 q with
        | some p => match a with
          | .ptr id gen i path o => some (.isl id gen i path o k p (q - p) n)
          | .rop (.agg l) => bif Nat.beq l.length n && allK k l then some (.lit k false ((l.take q).drop p)) else none
          | _ => none
        | none => none
      | none => none
    | _, _ => none
  | _ => none

def buildE (E : Env) (t : TypeId) (ps : List (Nat × AV)) : Option AV :=
  match E.P.underlying t, E.zero t with
  | some (.struct fs), some (.agg z) => match placesE E.P fs.toList with
    | some pl => match setParts (fun i => pl[i]?) z ps with
      | some l => some (.agg l)
      | none => none
    | none => none
  | some (.array _ e), some (.agg z) => match szOf E.P e with
    | some k => match setParts (fun i => some (i * k, k)) z ps with
      | some l => some (.agg l)
      | none => none
    | none => none
  | _, _ => none

/-- A row's zero values. -/
def baseE (E : Env) (e : TypeId) (len k : Nat) : Option (List AV) := bif Nat.beq len 0 then some [] else
  match E.zero e with
  | some z => bif Nat.beq (leafs z) k then some (List.replicate len z) else none
  | none => none

/-- The operations that call nothing: the value (the empty tuple where there is none), the heap, what was stored to. -/
def opE (E : Env) (f : FuncId) (fr : FR) (h : Heap) (o : Oper) : Option (AV × Heap × Option (Nat × Bool)) :=
  let P := E.P
  let one (x : Option AV) : Option (AV × Heap × Option (Nat × Bool)) := match x with
    | some y => some (y, h, none)
    | none => none
  match o.op with
  | .move x | .assign x => one (ev fr x)
  | .pick c a b => match ev fr c with
    | some (.v (.bool true)) => one (ev fr a)
    | some (.v (.bool false)) => one (ev fr b)
    | _ => none
  | .alloc t => match E.zero t with
    | some z => bif Nat.ble 1 (leafs z) then some (.ptr h.length 0 0 [] 0, newRow h (leafs z) [z] ⟨true, t⟩, none) else none
    | none => none
  | .box t x => match ev fr x with
    | some y => bif Nat.ble 1 (leafs y) && !isTupA y then some (.ptr h.length 0 0 [] 0, newRow h (leafs y) [y] ⟨true, t⟩, none) else none
    | none => none
  | .build t ps => match evP fr ps.toList with
    | some qs => one (buildE E t qs)
    | none => none
  | .buildSlice t len ps => match evP fr ps.toList, P.underlying t with
    | some qs, some (.slice e) => match szOf P e with
      | some k =>
        match baseE E e len k with
        | some zs => match setParts (fun i => some (i * k, k)) zs qs with
          | some l => bif Nat.ble (len * k) 16777216 && Nat.ble 1 k then
              bif E.rows f then some (.sl h.length 0 0 len, newRow h k l ⟨true, e⟩, none) else some (.lit k true l, h, none)
            else none
          | none => none
        | none => none
      | none => none
    | _, _ => none
  | .load t a => match ev fr a with
    | some p => one (loadE P h t p)
    | none => none
  | .store t a x => match ev fr a, ev fr x with
    | some p, some y => match storeE P h t p y with
      | some (h', id) => some (.tup [], h', some (id, !idfree y))
      | none => none
    | _, _ => none
  | .nilCheck x => match ev fr x with
    | some (.ptr id gen i p q) => some (.ptr id gen i p q, h, none)
    | some (.rop y) => some (.rop y, h, none)
    | some (.fn (.func g) a b) => some (.fn (.func g) a b, h, none)
    | _ => none
  | .binOp op t x y _ => match ev fr x, ev fr y with
    | some a, some b => one (binE P op t x y a b)
    | _, _ => none
  | .unOp op _ x => match ev fr x with
    | some a => match toV a with
      | some b => one (pure1 (prun P (Op.unary op b)))
      | none => none
    | none => none
  | .convert s t x => match ev fr x with
    | some a => match P.underlying s, P.underlying t, a with
      | some .string, some (.slice e), .v (.string b) => match P.underlying e with
        | some (.int .u8) => some (.lit 1 false (ofBytes b.data.toList), h, none)
        | _ => none
      | some (.slice e), some .string, a => match P.underlying e with
        | some (.int .u8) => match strOf h a with
          | some b => some (.v (.string b), h, none)
          | none => none
        | _ => none
      | _, _, a => match toV a with
        | some b => one (pure1 (prun P (convert s t b)))
        | none => one (convPtr P h s t a)
    | none => none
  | .makeFunc g a b => match evL fr a.toList, evL fr b.toList with
    | some x, some y => some (.fn g x y, h, none)
    | _, _ => none
  | .makeSlice t l c => match P.underlying t, ev fr l, ev fr c with
    | some (.slice e), some (.v (.int _ n)), some (.v (.int _ m)) => match E.zero e with
      | some z => bif Nat.beq ((szOf P e).getD 0) (leafs z) && decide (n = m) && decide (0 ≤ n) && decide (n * ((P.info? e).map (·.bytes)).getD 0 ≤ 140737488355328) && Nat.ble 1 (leafs z) && decide (n ≤ 140737488355328) then
          some (.sl h.length 0 0 n.toNat, newRow h (leafs z) (List.replicate n.toNat z) ⟨true, e⟩, none)
        else none
      | none => none
    | _, _, _ => none
  | .makeMap t none => match P.underlying t with
    | some (.map _ _) => some (.map h.length, h ++ [.map [] 0], none)
    | _ => none
  | .slice t x lo hi mx => match ev fr x, evO lo, evO hi, evO mx with
    | some a, some l, some r, some m => one (sliceE P h t a l r m)
    | _, _, _, _ => none
  | .fieldAddr t x g => match ev fr x with
    | some a => one (fieldAddrE P t a g)
    | none => none
  | .field t x g => match ev fr x with
    | some a => one (fieldE P t a g)
    | none => none
  | .indexAddr t x i => match ev fr x, ev fr i with
    | some a, some j => one (indexAddrE P h t a j)
    | _, _ => none
  | .index t x i => match ev fr x, ev fr i with
    | some a, some j => one (indexE P t a j)
    | _, _ => none
  | .extract x i => match ev fr x with
    | some (.tup l) => one l[i]?
    | _ => none
  | _ => none
where
  evO (x : Option Operand) : Option (Option AV) := match x with
    | none => some none
    | some y => match ev fr y with
      | some z => some (some z)
      | none => none

end Go.AM

namespace Go.AM
open Go

inductive Cl where
  | skip
  | pure
  | rd (id : Option Nat)
  | st (id : Nat)
  | quiet
  | w

def compat : Cl → Cl → Bool
  | .skip, _ | _, .skip | .pure, _ | _, .pure => true
  | .rd _, .rd _ | .rd _, .quiet | .quiet, .rd _ | .quiet, .quiet => true
  | .rd (some i), .st j | .st j, .rd (some i) => !(Nat.beq i j)
  | _, _ => false

abbrev OpRes := Option (AV × Heap × Option (Nat × Bool) × Cl)

/-! ### Maps -/
def keysV : List (AV × AV × Nat) → Option (List MapEntry)
  | [] => some []
  | (k, _, b) :: l => match toV k, keysV l with
    | some x, some xs => some (⟨x, .nilFunc, b⟩ :: xs)
    | _, _ => none

/-- Where the key stands (none: nowhere); nothing where that can't be told. -/
def findE (P : Program) (kt : TypeId) (em : Bool) (es : List (AV × AV × Nat)) (key : AV) : Option (Option Nat) :=
  match keysV es, toV key with
  | some vs, some k => match prun P (do Instr.checkKey em 10000 kt k; Instr.findKey kt k vs) with
    | some (some (i, _)) => some (some i)
    | some none => some none
    | none => none
  | _, _ => none

def lookupE (E : Env) (h : Heap) (t : TypeId) (m k : AV) (ok : Bool) : Option AV :=
  match E.P.underlying t with
  | some (.map kt e) =>
    let r : Option (AV × Bool) := match m with
      | .v (.map none) => match findE E.P kt true [] k, E.zero e with
        | some none, some z => some (z, false)
        | _, _ => none
      | .map id => match h[id]? with
        | some (.map es _) => match findE E.P kt es.isEmpty es k with
          | some (some i) => match es[i]? with
            | some (_, x, _) => some (x, true)
            | none => none
          | some none => match E.zero e with
            | some z => some (z, false)
            | none => none
          | none => none
        | _ => none
      | _ => none
    match r with
    | some (x, b) => some (bif ok then .tup [x, .v (.bool b)] else x)
    | none => none
  | _ => none

def updateE (E : Env) (h : Heap) (t : TypeId) (m k x : AV) : Option (Heap × Nat) :=
  match E.P.underlying t, m with
  | some (.map kt _), .map id => match h[id]? with
    | some (.map es c) => match findE E.P kt false es k with
      | some (some i) => match es[i]? with
        | some (k0, _, b) => match toV k0, toV k with
          | some o, some n => match prun E.P (Instr.keyThatStays o n) with
            | some _ => some (h.set id (.map (es.set i (k, x, b)) c), id)
            | none => none
          | _, _ => none
        | none => none
      | some none => some (h.set id (.map (es ++ [(k, x, c)]) (c + 1)), id)
      | none => none
    | _ => none
  | _, _ => none

/-! ### Builtins -/
def srcEls (P : Program) (Z : List (TypeId × AV)) (h : Heap) (t e : TypeId) (k : Nat) (x : AV) : Option (List AV) :=
  match P.underlying t, x with
  | some (.int _), .v (.int .i64 n) => match assoc Z e with
    | some z => bif decide (0 ≤ n) && decide (n ≤ 16777216) && Nat.beq (leafs z) k then some (List.replicate n.toNat z) else none
    | none => none
  | some .string, .v (.string s) => bif Nat.beq k 1 then some (ofBytes s.data.toList) else none
  | some (.slice _), .v (.slice none 0 0) => some []
  | some (.slice _), x => match elsOf h x with
    | some (k', l) => bif Nat.beq k k' then some l else none
    | none => none
  | _, _ => none

/-- Elements of k cells laid behind a slice. -/
def appendTo (h : Heap) (e : TypeId) (k0 : Nat) (s : AV) (xs : List AV) : OpRes :=
  match s with
  | .v (.slice none 0 0) => bif xs.isEmpty then some (.v (.slice none 0 0), h, none, .quiet) else
      some (.sl h.length 0 0 xs.length, newRow h k0 xs ⟨false, e⟩, none, .st h.length)
  | .lit k full l => bif xs.isEmpty then some (.lit k full l, h, none, .quiet) else
      bif full && Nat.beq k k0 then some (.sl h.length 0 0 (l.length + xs.length), newRow h k0 (l ++ xs) ⟨false, e⟩, none, .st h.length) else none
  | .sl id gen off len => match h[id]? with
    | some (.row k g els ex) => bif Nat.beq k k0 && Nat.beq g gen && Nat.ble (off + len) els.length then
        bif Nat.ble (off + len + xs.length) els.length then
          some (.sl id gen off (len + xs.length), h.set id (.row k g (setFrom els (off + len) xs) ex), some (id, !idfreeL xs), .w)
        else bif Nat.beq off 0 && Nat.beq ex.ty e then
          some (.sl id (gen + 1) 0 (len + xs.length), h.set id (.row k (gen + 1) (els.take len ++ xs) ⟨false, e⟩), some (id, !idfreeL xs), .w)
        else none
      else none
    | _ => none
  | _ => none

def appendE (P : Program) (Z : List (TypeId × AV)) (h : Heap) (ts : Array TypeId) (s x : AV) : OpRes :=
  match ts[0]?, ts[1]? with
  | some st, some xt => match P.underlying st with
    | some (.slice e) => match P.info? e with
      | some i => match i.zero, srcEls P Z h xt e i.size x with
        | some z, some xs => bif Nat.beq z.cells.size i.size && Nat.ble 1 i.size && Nat.ble 1 i.bytes && Nat.ble (((sliceLen s).getD 0 + xs.length) * i.bytes) 140737488355328 then
            appendTo h e i.size s xs
          else none
        | _, _ => none
      | none => none
    | _ => none
  | _, _ => none

def copyE (P : Program) (h : Heap) (ts : Array TypeId) (d x : AV) : OpRes :=
  match ts[0]?, ts[1]? with
  | some dt, some xt => match P.underlying dt with
    | some (.slice e) => match szOf P e with
      | some k => match srcEls P [] h xt e k x, sliceLen d with
        | some xs, some len =>
          let n := min xs.length len
          let ys := xs.take n
          bif Nat.beq n 0 then some (vInt 0, h, none, .quiet) else
          match d with
          | .sl id gen off _ => match h[id]? with
            | some (.row k' g els ex) => bif Nat.beq k k' && Nat.beq g gen && Nat.ble (off + len) els.length then
                some (vInt n, h.set id (.row k' g (setFrom els off ys) ex), some (id, !idfreeL ys), .w) else none
            | _ => none
          | .isl id gen i path o k' off _ m => match h[id]? with
            | some (.row kr g els ex) => bif Nat.beq k k' && Nat.beq g gen then
                match els[i]? with
                | some z => match nav z path o with
                  | some (.agg l) => bif Nat.beq l.length m && allK k l && Nat.ble (off + len) m then
                      match put z path o (.agg (setFrom l off ys)) with
                      | some z' => some (vInt n, h.set id (.row kr g (els.set i z') ex), some (id, !idfreeL ys), .w)
                      | none => none
                    else none
                  | _ => none
                | none => none
              else none
            | _ => none
          | _ => none
        | _, _ => none
      | none => none
    | _ => none
  | _, _ => none

/-- Between two rows, or within one, of which only what is copied is told. -/
def copyS (P : Program) (h : Heap) (ts : Array TypeId) (d x : AV) : OpRes :=
  match ts[0]?, ts[1]? with
  | some dt, some _ => match P.underlying dt with
    | some (.slice e) => match szOf P e, d, x with
      | some k, .sl id gen off len, .sl id2 gen2 off2 len2 => match h[id]?, h[id2]? with
        | some (.row k1 g els ex), some (.row k2 g2 els2 _) =>
          let n := min len2 len
          bif Nat.beq k k1 && Nat.beq k k2 && Nat.beq g gen && Nat.beq g2 gen2 && Nat.ble (off2 + n) els2.length && Nat.ble off els.length && Nat.ble 1 n then
            some (vInt n, h.set id (.row k g (els.take off ++ ((els2.drop off2).take n ++ els.drop (off + n))) ex), some (id, !idfreeL ((els2.drop off2).take n)), .w)
          else none
        | _, _ => none
      | _, _, _ => none
    | _ => none
  | _, _ => none

def cpO (a b : OpRes) : OpRes := match a with
  | some r => some r
  | none => b

def lenE (P : Program) (h : Heap) (ts : Array TypeId) (x : AV) : OpRes :=
  match ts[0]? with
  | some t => match P.underlying t, x with
    | some .string, .v (.string s) => some (vInt s.size, h, none, .pure)
    | some (.slice _), x => match sliceLen x with
      | some n => some (vInt n, h, none, .pure)
      | none => none
    | some (.array n _), .agg _ => some (vInt n, h, none, .pure)
    | some (.array n _), .ptr .. => some (vInt n, h, none, .pure)
    | some (.map _ _), .v (.map none) => some (vInt 0, h, none, .pure)
    | some (.map _ _), .map id => match h[id]? with
      | some (.map es _) => some (vInt es.length, h, none, .rd (some id))
      | _ => none
    | _, _ => none
  | none => none

def capE (P : Program) (h : Heap) (ts : Array TypeId) (x : AV) : OpRes :=
  match ts[0]? with
  | some t => match P.underlying t, x with
    | some (.slice _), .v (.slice none 0 0) => some (vInt 0, h, none, .pure)
    | some (.slice _), .lit _ true l => some (vInt l.length, h, none, .pure)
    | some (.slice _), .isl _ _ _ _ _ _ off _ n => some (vInt (n - off), h, none, .pure)
    | some (.slice _), .sl id gen off _ => match h[id]? with
      | some (.row _ g els ex) => bif Nat.beq g gen && ex.full then some (vInt (els.length - off), h, none, .rd (some id)) else none
      | _ => none
    | _, _ => none
  | none => none

def clearE (E : Env) (h : Heap) (ts : Array TypeId) (x : AV) : OpRes :=
  match ts[0]? with
  | some t => match E.P.underlying t, x with
    | some (.slice _), .v (.slice none 0 0) => some (.tup [], h, none, .quiet)
    | some (.slice e), .sl id gen off len => match h[id]?, E.zero e with
      | some (.row k g els ex), some z => bif Nat.beq g gen && Nat.beq (leafs z) k && Nat.ble (off + len) els.length then
          some (.tup [], h.set id (.row k g (setFrom els off (List.replicate len z)) ex), some (id, false), .w) else none
      | _, _ => none
    | _, _ => none
  | none => none

def deleteE (E : Env) (h : Heap) (ts : Array TypeId) (m k : AV) : OpRes :=
  match ts[0]? with
  | some t => match E.P.underlying t, m with
    | some (.map kt _), .map id => match h[id]? with
      | some (.map es c) => match findE E.P kt es.isEmpty es k with
        | some (some i) => some (.tup [], h.set id (.map (es.eraseIdx i) c), some (id, false), .w)
        | some none => some (.tup [], h, none, .rd (some id))
        | none => none
      | _ => none
    | _, _ => none
  | none => none

def sliceDataE (h : Heap) (x : AV) : OpRes :=
  match x with
  | .v (.slice none 0 0) => some (.v (.pointer none), h, none, .pure)
  | .sl id gen off _ => match h[id]? with
    | some (.row _ g els _) => bif Nat.beq g gen && Nat.blt off els.length then some (.ptr id gen off [] 0, h, none, .rd (some id)) else none
    | _ => none
  | _ => none

def bytesOK : List AV → Bool
  | [] => true
  | .v (.int .u8 n) :: l => decide (0 ≤ n) && decide (n < 256) && bytesOK l
  | _ => false

/-- The row's bytes are a string from here on: nobody writes them again. -/
def unsafeStringE (P : Program) (h : Heap) (ts : Array TypeId) (x n : AV) : OpRes :=
  match ts.toList, n with
  | [pt, _], .v (.int .i64 n) => bif decide (n = 0) then (match x with
        | .v (.pointer none) => some (.v (.string ByteArray.empty), h, none, .pure)
        | .ptr .. => some (.v (.string ByteArray.empty), h, none, .pure)
        | _ => none)
      else match x, P.underlying pt with
        | .ptr id gen 0 [] 0, some (.pointer u) => match h[id]? with
          | some (.row k g els ex) => match bytesL (els.take n.toNat) with
            | some bs => bif Nat.beq g gen && Nat.beq k 1 && decide (0 ≤ n) && Nat.ble n.toNat els.length && Nat.beq (P.cellsOf ex.ty) 1 && Nat.beq u ex.ty && bytesOK (els.take n.toNat) then
                some (.v (.string ⟨bs.toArray⟩), h.set id .dead, some (id, false), .w) else none
            | none => none
          | _ => none
        | _, _ => none
  | _, _ => none

def toVL : List AV → Option (List Value)
  | [] => some []
  | x :: l => match toV x, toVL l with
    | some y, some ys => some (y :: ys)
    | _, _ => none

def builtinE (E : Env) (h : Heap) (b : Builtin) (ts : Array TypeId) (ty : TypeId) (args : List AV) : OpRes :=
  let pureB (s : Array Value → Sem Value) : OpRes := match toVL args with
    | some vs => match pure1 (prun E.P (s vs.toArray)) with
      | some y => some (y, h, none, .pure)
      | none => none
    | none => none
  match b, args with
  | .append, [s, x] => appendE E.P E.zeros h ts s x
  | .copy, [d, x] => cpO (copyE E.P h ts d x) (copyS E.P h ts d x)
  | .len, [x] => lenE E.P h ts x
  | .cap, [x] => capE E.P h ts x
  | .clear, [x] => clearE E h ts x
  | .delete, [m, k] => deleteE E h ts m k
  | .min, _ => pureB (Builtin.min_ ts ty)
  | .max, _ => pureB (Builtin.max_ ts ty)
  | .real, _ => pureB (Builtin.real_ ts ty)
  | .imag, _ => pureB (Builtin.imag_ ts ty)
  | .complex, _ => pureB (Builtin.complex_ ts ty)
  | .unsafeSliceData, [x] => sliceDataE h x
  | .unsafeString, [x, n] => unsafeStringE E.P h ts x n
  | _, _ => none

/-! ### The state, regions, code -/
structure St where
  fr : FR
  h : Heap
  ds : List Nat
  ls : List Nat

inductive Ex where
  | normal
  | exit (id : Nat)
  | goto (l : Nat)
  | ret

abbrev CallK := FuncId → List AV → Heap → Option (AV × Heap × Eff)

def putF (nt : Nat) (fr : FR) (dst : Option Tmp) (y : AV) : Option FR := match dst with
  | none => some fr
  | some d => bif Nat.blt d nt then some ((d, y) :: fr) else none

/-- Is the operation carried out? -/
def wantedE (ops : Array Oper) (fr : FR) (o : Oper) : Option Bool :=
  match o.guard with
  | none => some true
  | some (j, want) => match (ops[j]?).bind (·.dst) with
    | some d => match get fr d with
      | some (.v (.bool b)) => some (b == want)
      | some (.tup []) => some false
      | _ => none
    | none => some false

def insLt (n0 a : Nat) (l : List Nat) : List Nat := bif Nat.blt a n0 then ins a l else l

def mergeLt (n0 : Nat) : List Nat → List Nat → List Nat
  | [], l => l
  | a :: r, l => mergeLt n0 r (insLt n0 a l)

structure Out where
  y : AV
  h : Heap
  c : Cl
  ds : List Nat
  ls : List Nat

/-- What an operation that calls nothing reads or writes. -/
def clsOf (E : Env) (f : FuncId) (o : Oper) (fr : FR) : Cl := match o.op with
  | .load _ a => match ev fr a with
    | some (.ptr id ..) => .rd (some id)
    | _ => .pure
  | .store _ a _ => match ev fr a with
    | some (.ptr id ..) => .st id
    | _ => .w
  | .alloc _ | .box _ _ | .makeSlice _ _ _ | .makeMap _ _ => .w
  | .buildSlice _ _ _ => bif E.rows f then .w else .pure
  | .convert _ _ a => match ev fr a with
    | some (.sl id ..) | some (.isl id ..) | some (.ptr id ..) => .rd (some id)
    | _ => .pure
  | .slice _ a _ _ _ | .indexAddr _ a _ => match ev fr a with
    | some (.sl id ..) | some (.isl id ..) => .rd (some id)
    | _ => .pure
  | _ => .pure

def callArgs (fr : FR) (c : Call) : Option (FuncId × List AV) :=
  match c.callee with
  | .value x => match ev fr x, evL fr c.args.toList with
    | some (.fn (.func g) first captured), some l => some (g, first ++ l ++ captured)
    | _, _ => none
  | _ => none

def outOf (y : AV) (h : Heap) (s : Option (Nat × Bool)) (c : Cl) : Out := match s with
  | none => ⟨y, h, c, [], []⟩
  | some (id, b) => ⟨y, h, c, [id], bif b then [id] else []⟩

/-- A new row is written where nothing stood. -/
def newCl (y : AV) (c : Cl) : Cl := match c, y with
  | .w, .sl id _ _ _ => .st id
  | c, _ => c

/-- One operation: what it leaves. -/
def coreO (E : Env) (K : CallK) (f : FuncId) (o : Oper) (fr : FR) (h : Heap) : Option Out :=
  match o.op with
  | .call c => match c.callee with
    | .builtin b => match evL fr c.args.toList with
      | some l => match builtinE E h b c.argTypes o.type l with
        | some (y, h', s, cl) => some (outOf y h' s cl)
        | none => none
      | none => none
    | _ => match callArgs fr c with
      | some (g, l) => match K g l h with
        | some (y, h', e) => some ⟨y, h', bif e.q then .quiet else .w, e.ds, e.ls⟩
        | none => none
      | none => none
  | .mapUpdate t m k x | .insert t m k x => match ev fr m, ev fr k, ev fr x with
    | some m, some k, some x => match updateE E h t m k x with
      | some (h', id) => some (outOf (.tup []) h' (some (id, !idfree x)) .w)
      | none => none
    | _, _, _ => none
  | .lookup t m k ok => match ev fr m, ev fr k with
    | some m', some k => match lookupE E h t m' k ok with
      | some y => some (outOf y h none (match m' with | .map id => .rd (some id) | _ => .pure))
      | none => none
    | _, _ => none
  | .buildSlice _ _ _ => match opE E f fr h o with
    | some (y, h', s) => some (outOf y h' s (newCl y (clsOf E f o fr)))
    | none => none
  | _ => match opE E f fr h o with
    | some (y, h', s) => some (outOf y h' s (clsOf E f o fr))
    | none => none

def stepO (E : Env) (K : CallK) (f : FuncId) (nt n0 : Nat) (ops : Array Oper) (o : Oper) (st : St) : Option (St × Cl) :=
  match wantedE ops st.fr o with
  | some false => match putF nt st.fr o.dst (.tup []) with
    | some fr => some ({ st with fr }, .skip)
    | none => none
  | some true => match coreO E K f o st.fr st.h with
    | some x => match putF nt st.fr o.dst x.y with
      | some fr => some ({ fr, h := x.h, ds := mergeLt n0 x.ds st.ds, ls := mergeLt n0 x.ls st.ls }, x.c)
      | none => none
    | none => none
  | none => none

def runOps (E : Env) (K : CallK) (f : FuncId) (nt n0 : Nat) (ops : Array Oper) : List Oper → St → List Cl → Option (St × List Cl)
  | [], st, cs => some (st, cs)
  | o :: os, st, cs => match stepO E K f nt n0 ops o st with
    | some (st', c) => runOps E K f nt n0 ops os st' (c :: cs)
    | none => none

/-- The classes stand last first. -/
def pairsOK (cs : List Cl) : List (Nat × Nat) → Bool
  | [] => true
  | (i, j) :: r => (match cs[cs.length - 1 - i]?, cs[cs.length - 1 - j]? with
    | some a, some b => compat a b
    | _, _ => false) && pairsOK cs r

def keepF : List Nat → FR → FR
  | [], _ => []
  | t :: ts, fr => match get fr t with
    | some y => (t, y) :: keepF ts fr
    | none => keepF ts fr

def maskS (l : List Nat) (st : St) : St := { st with fr := keepF l st.fr }

def loopN (body : St → Option (Ex × St)) (l : List Nat) : Nat → St → Option (Ex × St)
  | 0, _ => none
  | n + 1, st => match body (maskS l st) with
    | some (.normal, st') => loopN body l n st'
    | r => r

def hasLabel : Code → Nat → Bool
  | .seq a b, l => hasLabel a l || hasLabel b l
  | .label l', l => Nat.beq l' l
  | _, _ => false

/-- A scope's body, gone on with at the label to which it jumps. -/
def scopeN (from_ : Nat → St → Option (Ex × St)) (has : Nat → Bool) (l : List Nat) : Nat → Option (Ex × St) → Option (Ex × St)
  | 0, _ => none
  | n + 1, r => match r with
    | some (.goto g, st) => bif has g then scopeN from_ has l n (from_ g (maskS l st)) else some (.goto g, st)
    | r => r

mutual
def exec (E : Env) (K : CallK) (nl : Nat) (f : FuncId) (nt n0 : Nat) : Code → St → Option (Ex × St)
  | .skip, st => some (.normal, st)
  | .label _, st => some (.normal, st)
  | .region id ops draw, st => match runOps E K f nt n0 ops ops.toList st [] with
    | some (st', cs) => bif draw then (bif pairsOK cs (E.pairs f id) then some (.normal, st') else none) else some (.normal, st')
    | none => none
  | .seq a b, st => match exec E K nl f nt n0 a st with
    | some (.normal, st') => exec E K nl f nt n0 b st'
    | r => r
  | .cond c a b, st => match ev st.fr c with
    | some (.v (.bool t)) => match t with
      | true => exec E K nl f nt n0 a st
      | false => exec E K nl f nt n0 b st
    | _ => none
  | .block id b, st => match exec E K nl f nt n0 b st with
    | some (.exit i, st') => bif Nat.beq i id then some (.normal, st') else some (.exit i, st')
    | r => r
  | .loop b, st => loopN (exec E K nl f nt n0 b) (E.masks f) nl st
  | .exit id, st => some (.exit id, st)
  | .goto l, st => some (.goto l, st)
  | .ret, st => some (.ret, st)
  | .scope b, st => scopeN (execFrom E K nl f nt n0 b) (hasLabel b) (E.masks f) nl (exec E K nl f nt n0 b st)
  | .rangeFunc _ _ _ _, _ => none
  | .refuse _, _ => none
def execFrom (E : Env) (K : CallK) (nl : Nat) (f : FuncId) (nt n0 : Nat) : Code → Nat → St → Option (Ex × St)
  | .seq a b, l, st => bif hasLabel a l then
      match execFrom E K nl f nt n0 a l st with
      | some (.normal, st') => exec E K nl f nt n0 b st'
      | r => r
    else execFrom E K nl f nt n0 b l st
  | .label l', l, st => bif Nat.beq l' l then some (.normal, st) else none
  | _, _, _ => none
end

/-! ### Calls -/
mutual
/-- What comes back: a slice over a new row becomes a frozen one. -/
def frz (n0 : Nat) (h : Heap) : AV → Option AV
  | .v x => some (.v x)
  | .any => some .any
  | .agg l => match frzL n0 h l with
    | some l' => some (.agg l')
    | none => none
  | .tup l => match frzL n0 h l with
    | some l' => some (.tup l')
    | none => none
  | .lit k b l => bif idfreeL l then some (.lit k b l) else none
  | .rop x => bif idfree x then some (.rop x) else none
  | .sl id gen off len => bif Nat.blt id n0 then some (.sl id gen off len) else
      match elsOf h (.sl id gen off len) with
      | some (k, l) => bif idfreeL l then some (.lit k false l) else none
      | none => none
  | .isl id gen i path o k off len n => bif Nat.blt id n0 then some (.isl id gen i path o k off len n) else
      match elsOf h (.isl id gen i path o k off len n) with
      | some (k, l) => bif idfreeL l then some (.lit k false l) else none
      | none => none
  | .ptr id gen i path o => bif Nat.blt id n0 then some (.ptr id gen i path o) else none
  | .map id => bif Nat.blt id n0 then some (.map id) else none
  | .fn g a b => bif idfreeL a && idfreeL b then some (.fn g a b) else none
def frzL (n0 : Nat) (h : Heap) : List AV → Option (List AV)
  | [] => some []
  | x :: l => match frz n0 h x, frzL n0 h l with
    | some y, some ys => some (y :: ys)
    | _, _ => none
end

def finish (keep : Bool) (h0 : Heap) (st : St) (r : AV) : AV × Heap × Eff :=
  bif keep then (r, st.h, ⟨st.ds, st.ls, false⟩) else
  match st.ls with
  | [] => match frz h0.length st.h r with
    | some r' => match st.ds with
      | [] => (r', h0, ⟨[], [], true⟩)
      | _ :: _ => (r', st.h.take h0.length, ⟨st.ds, [], false⟩)
    | none => (r, st.h, ⟨st.ds, [], false⟩)
  | _ :: _ => (r, st.h, ⟨st.ds, st.ls, false⟩)

def resultE (P : Program) (st : St) : ResultVar → Option AV
  | .tmp t => get st.fr t
  | .cell a t => match get st.fr a with
    | some p => loadE P st.h t p
    | none => none

def resultsE (P : Program) (st : St) : List ResultVar → Option (List AV)
  | [] => some []
  | r :: rs => match resultE P st r, resultsE P st rs with
    | some y, some ys => some (y :: ys)
    | _, _ => none

def oneOrTup : List AV → AV
  | [x] => x
  | l => .tup l

def args0 : Nat → List AV → FR
  | _, [] => []
  | i, x :: l => (i, x) :: args0 (i + 1) l

def call (E : Env) : Nat → CallK
  | 0, _, _, _ => none
  | n + 1, f, args, h => match E.ov f with
    | some o => o args h
    | none => match E.P.funcs[f]? with
      | some fn => match fn.body with
        | some c => bif Nat.ble args.length fn.ntmps then
            match exec E (call E n) n f fn.ntmps h.length c ⟨args0 0 args, h, [], []⟩ with
            | some (.normal, st) | some (.ret, st) => match resultsE E.P st fn.results.toList with
              | some rs => some (finish (E.keep f) h st (oneOrTup rs))
              | none => none
            | _ => none
          else none
        | none => none
      | none => none

/-! ### Regions whose order is drawn: which pairs no edge orders -/
def reach (ops : List Oper) : List Nat :=   -- for each operation the bits of those that come ahead of it
  (ops.foldl (fun (acc : List Nat) o => acc ++ [o.after.toList.foldl (fun b e => bif Region.binds .any e then Nat.lor b (Nat.lor (2 ^ e.on) (acc.getD e.on 0)) else b) 0]) [])

end Go.AM
