/- The abstract machine: values, heaps and a function that runs the loaded code on them.
   Nothing here is about one program; conditions: none. -/
import Derived.Calls
import Derived.Orders
import Derived.LoopN
import Derived.Maps.AppendAt
import Derived.KernelRfl
namespace Go.AM
open Go

/-! ### Values -/
inductive AV where
  | v (x : Value)
  | agg (l : List AV)
  | tup (l : List AV)
  | lit (k : Nat) (full : Bool) (l : List AV)
  | sl (id gen off len : Nat)
  | isl (id gen i : Nat) (path : List Nat) (o k off len n : Nat)
  | ptr (id gen i : Nat) (path : List Nat) (o : Nat)
  | rop (x : AV)
  | map (id : Nat)
  | fn (f : Fn) (first captured : List AV)
  | any
  deriving Inhabited

/-- Of a row: whether it is told whole; its elements' type. -/
structure Tag where
  full : Bool
  ty : TypeId
  deriving Inhabited

inductive Row where
  | row (k gen : Nat) (els : List AV) (exact : Tag)
  | map (es : List (AV × AV × Nat)) (clock : Nat)
  | dead
  deriving Inhabited

abbrev Heap := List Row
abbrev FR := List (Nat × AV)

def get : FR → Nat → Option AV
  | [], _ => none
  | (k, x) :: r, t => bif Nat.beq k t then some x else get r t

/-- A scalar that holds no address. -/
def free : Value → Bool
  | .bool _ | .int _ _ | .float _ _ | .complex _ _ _ | .string _ => true
  | .pointer none | .map none | .chan none | .nilFunc | .nilIface => true
  | .slice none 0 0 => true
  | _ => false

mutual
def leafs : AV → Nat
  | .agg l => leafsL l
  | _ => 1
def leafsL : List AV → Nat
  | [] => 0
  | x :: l => leafs x + leafsL l
end

mutual
/-- No id of the heap stands in it. -/
def idfree : AV → Bool
  | .v _ => true
  | .agg l | .tup l | .lit _ _ l => idfreeL l
  | .rop x => idfree x
  | .fn _ a b => idfreeL a && idfreeL b
  | .any => true
  | _ => false
def idfreeL : List AV → Bool
  | [] => true
  | x :: l => idfree x && idfreeL l
end

mutual
/-- The concrete value, where there is no address. -/
def toV : AV → Option Value
  | .v x => bif free x then some x else none
  | .agg l => match toVs l with
    | some cs => some (.agg cs.toArray)
    | none => none
  | _ => none
def toVs : List AV → Option (List Value)
  | [] => some []
  | x :: l => match toV x, toVs l with
    | some y, some cs => some (y.cells.toList ++ cs)
    | _, _ => none
end

/-- A run that asks nothing of the world. -/
def prun {α : Type} (P : Program) : Sem α → Option α
  | .pure a => some a
  | .program k => prun P (k P)
  | .mark _ k => prun P k
  | .choose q k => bif q.forced then prun P (k 0) else none
  | _ => none

def isTupA : AV → Bool
  | .tup _ => true
  | _ => false

def isAggA : AV → Bool
  | .agg _ => true
  | _ => false

def szOf (P : Program) (t : TypeId) : Option Nat := (P.info? t).map (·.size)
def aggT (P : Program) (t : TypeId) : Option Bool := match P.underlying t with
  | some (.struct _) => some true
  | some (.array _ _) => some true
  | some _ => some false
  | none => none

/-! ### Places -/
mutual
def nav : AV → List Nat → Nat → Option AV
  | x, [], o => bif Nat.beq o 0 then some x else none
  | .agg l, f :: p, o => navL l f p o
  | _, _ :: _, _ => none
def navL : List AV → Nat → List Nat → Nat → Option AV
  | [], _, _, _ => none
  | x :: _, 0, p, o => nav x p o
  | x :: l, f + 1, p, o => bif Nat.ble (leafs x) o then navL l f p (o - leafs x) else none
end

mutual
/-- What stands there turned, its shape kept. -/
def put : AV → List Nat → Nat → AV → Option AV
  | x, [], o, y => bif Nat.beq o 0 && Nat.beq (leafs x) (leafs y) then some y else none
  | .agg l, f :: p, o, y => match putL l f p o y with
    | some l' => some (.agg l')
    | none => none
  | _, _ :: _, _, _ => none
def putL : List AV → Nat → List Nat → Nat → AV → Option (List AV)
  | [], _, _, _, _ => none
  | x :: l, 0, p, o, y => match put x p o y with
    | some x' => some (x' :: l)
    | none => none
  | x :: l, f + 1, p, o, y => bif Nat.ble (leafs x) o then
      match putL l f p (o - leafs x) y with
      | some l' => some (x :: l')
      | none => none
    else none
end

/-- The cells of one or more elements, written out: consecutive elements of a list turned. -/
def setFrom : List AV → Nat → List AV → List AV
  | l, _, [] => l
  | l, i, y :: ys => setFrom (l.set i y) (i + 1) ys

def allK (k : Nat) : List AV → Bool
  | [] => true
  | x :: l => Nat.beq (leafs x) k && allK k l

/-! ### The environment -/
structure Eff where
  ds : List Nat
  ls : List Nat
  q : Bool

structure Env where
  P : Program
  zeros : List (TypeId × AV)
  masks : FuncId → List Nat
  rows : FuncId → Bool
  keep : FuncId → Bool
  pairs : FuncId → Nat → List (Nat × Nat)
  ov : FuncId → Option (List AV → Heap → Option (AV × Heap × Eff))

def assoc : List (TypeId × AV) → TypeId → Option AV
  | [], _ => none
  | (k, x) :: r, t => bif Nat.beq k t then some x else assoc r t

def Env.zero (E : Env) (t : TypeId) : Option AV := assoc E.zeros t

def ins (a : Nat) (l : List Nat) : List Nat := bif l.elem a then l else a :: l

def ev (fr : FR) : Operand → Option AV
  | .tmp t => get fr t
  | .const x => bif free x then some (.v x) else none
  | .global _ => none
  | .func f => some (.fn (.func f) [] [])

def evL (fr : FR) : List Operand → Option (List AV)
  | [] => some []
  | x :: l => match ev fr x, evL fr l with
    | some y, some ys => some (y :: ys)
    | _, _ => none

def evP (fr : FR) : List (Nat × Operand) → Option (List (Nat × AV))
  | [] => some []
  | (i, x) :: l => match ev fr x, evP fr l with
    | some y, some ys => some ((i, y) :: ys)
    | _, _ => none

/-- Parts laid into a struct or a row; 'pl': where each begins, and how many cells it has. -/
def setParts (pl : Nat → Option (Nat × Nat)) : List AV → List (Nat × AV) → Option (List AV)
  | l, [] => some l
  | l, (i, y) :: ps => match pl i with
    | some (off, sz) => bif Nat.beq (leafs y) sz && !isTupA y then
        match putL l i [] off y with
        | some l' => setParts pl l' ps
        | none => none
      else none
    | none => none

def placesE (P : Program) : List Field → Option (List (Nat × Nat))
  | [] => some []
  | f :: fs => match szOf P f.type, placesE P fs with
    | some n, some l => some ((f.offset, n) :: l)
    | _, _ => none

/-- A slice's elements, and how many cells each has. -/
def elsOf (h : Heap) : AV → Option (Nat × List AV)
  | .lit k _ l => some (k, l)
  | .sl id gen off len => match h[id]? with
    | some (.row k g els _) => bif Nat.beq g gen && Nat.ble (off + len) els.length then some (k, (els.drop off).take len) else none
    | _ => none
  | .isl id gen i path o k off len n => match h[id]? with
    | some (.row _ g els _) => bif Nat.beq g gen then
        match els[i]? with
        | some x => match nav x path o with
          | some (.agg l) => bif Nat.beq l.length n && allK k l && Nat.ble (off + len) n then some (k, (l.drop off).take len) else none
          | _ => none
        | none => none
      else none
    | _ => none
  | _ => none

def sliceLen : AV → Option Nat
  | .lit _ _ l => some l.length
  | .sl _ _ _ len => some len
  | .isl _ _ _ _ _ _ _ len _ => some len
  | .v (.slice none 0 0) => some 0
  | _ => none

def byteOf? : AV → Option UInt8
  | .v (.int .u8 n) => some (UInt8.ofNat n.toNat)
  | _ => none

def bytesL : List AV → Option (List UInt8)
  | [] => some []
  | x :: l => match byteOf? x, bytesL l with
    | some b, some bs => some (b :: bs)
    | _, _ => none

def ofBytes (l : List UInt8) : List AV := l.map fun b => .v (.int .u8 b.toNat)

def strOf (h : Heap) (x : AV) : Option ByteArray :=
  match x with
  | .v (.slice none 0 0) => some ByteArray.empty
  | .v (.string s) => some s
  | x => match elsOf h x with
    | some (k, l) => bif Nat.beq k 1 then
        match bytesL l with
        | some bs => some ⟨bs.toArray⟩
        | none => none
      else none
    | none => none

def intOf : AV → Option Int
  | .v (.int _ n) => some n
  | _ => none

def vInt (n : Nat) : AV := .v (.int .i64 n)

/-! ### One operation -/
def pure1 (x : Option Value) : Option AV := match x with
  | some y => bif free y then some (.v y) else none
  | none => none

/-- Held against nil. -/
def nilEq (d : TypeDesc) (x y : AV) : Option Bool :=
  match d, x, y with
  | .pointer _, .ptr .., .v (.pointer none) => some false
  | .pointer _, .rop _, .v (.pointer none) => some false
  | .pointer _, .v (.pointer none), .ptr .. => some false
  | .pointer _, .v (.pointer none), .rop _ => some false
  | .slice _, .sl .., .v (.slice none 0 0) => some false
  | .slice _, .lit .., .v (.slice none 0 0) => some false
  | .slice _, .isl .., .v (.slice none 0 0) => some false
  | .map _ _, .map _, .v (.map none) => some false
  | .map _ _, .v (.map none), .map _ => some false
  | .func _ _ _, .fn .., .v .nilFunc => some false
  | _, _, _ => none

/-- Two pointers to the same place. -/
def ptrSame (P : Program) (d : TypeDesc) (x y : AV) : Bool :=
  match d, x, y with
  | .pointer e, .ptr id gen i _ o, .ptr id' gen' i' _ o' => (match szOf P e with
      | some n => Nat.ble 1 n
      | none => false) && Nat.beq id id' && Nat.beq gen gen' && Nat.beq i i' && Nat.beq o o'
  | _, _, _ => false

/-- Of a place: its row's type, how many elements are told, and where it lies. -/
def placeE (P : Program) (h : Heap) (id gen i o : Nat) : Option (TypeId × Nat × Nat) :=
  match h[id]? with
  | some (.row k g els ex) => bif Nat.beq g gen && Nat.blt i els.length && Nat.blt o k && Nat.beq (P.cellsOf ex.ty) k then some (ex.ty, els.length, i * k + o) else none
  | _ => none

/-- A pointer told as another one. -/
def convPtr (P : Program) (h : Heap) (s t : TypeId) (a : AV) : Option AV :=
  match P.underlying s, P.underlying t, a with
  | some (.pointer d), some .unsafePointer, .ptr id gen i p o => match placeE P h id gen i o, szOf P d with
    | some _, some n => bif Nat.ble 1 n then some (.ptr id gen i p o) else none
    | _, _ => none
  | some .unsafePointer, some (.pointer u), .ptr id gen i p o => match placeE P h id gen i o, szOf P u with
    | some (e, c, off), some n => bif Nat.ble 1 n && liesAt P P.depth e c off u 1 then some (.ptr id gen i p o) else none
    | _, _ => none
  | _, _, _ => none

def binE (P : Program) (op : BinOp) (t : TypeId) (ox oy : Operand) (x y : AV) : Option AV :=
  match toV x, toV y with
  | some a, some b => pure1 (prun P (do eqGuard op t ox oy a b; binOp op t a b))
  | _, _ => match op, P.underlying t with
    | .eql, some d => match nilEq d x y with
      | some b => some (.v (.bool b))
      | none => bif ptrSame P d x y then some (.v (.bool true)) else none
    | .neq, some d => match nilEq d x y with
      | some b => some (.v (.bool !b))
      | none => bif ptrSame P d x y then some (.v (.bool false)) else none
    | _, _ => none

abbrev Res := Option (AV × Heap)

def newRow (h : Heap) (k : Nat) (els : List AV) (exact : Tag) : Heap := h ++ [.row k 0 els exact]

def lookAt (h : Heap) : AV → Option AV
  | .ptr id gen i p o => match h[id]? with
    | some (.row _ g els _) => bif Nat.beq g gen then
        match els[i]? with
        | some x => nav x p o
        | none => none
      else none
    | _ => none
  | .rop x => some x
  | _ => none

/-- A part that has the type's size and shape. -/
def partE (P : Program) (t : TypeId) (y : Option AV) : Option AV :=
  match y, szOf P t, aggT P t with
  | some y, some n, some b => bif Nat.beq (leafs y) n && (b == isAggA y) then some y else none
  | _, _, _ => none

def loadE (P : Program) (h : Heap) (t : TypeId) (a : AV) : Option AV := partE P t (lookAt h a)

def storeE (P : Program) (h : Heap) (t : TypeId) (a x : AV) : Option (Heap × Nat) :=
  match a, szOf P t with
  | .ptr id gen i p o, some n => match h[id]? with
    | some (.row k g els ex) => bif Nat.beq g gen && Nat.beq (leafs x) n && !isTupA x then
        match els[i]? with
        | some z => match put z p o x with
          | some z' => some (h.set id (.row k g (els.set i z') ex), id)
          | none => none
        | none => none
      else none
    | _ => none
  | _, _ => none

def fieldOf (P : Program) (t : TypeId) (f : Nat) : Option (Nat × Nat) := match P.underlying t with
  | some (.struct fs) => match fs[f]? with
    | some d => match szOf P d.type with
      | some n => some (d.offset, n)
      | none => none
    | none => none
  | _ => none

def fieldAddrE (P : Program) (t : TypeId) (a : AV) (f : Nat) : Option AV :=
  match fieldOf P t f with
  | some (off, n) => bif Nat.beq n 0 then none else
    match a with
    | .ptr id gen i p o => some (.ptr id gen i (p ++ [f]) (o + off))
    | .rop (.agg l) => match navL l f [] off with
      | some y => some (.rop y)
      | none => none
    | _ => none
  | none => none

def fieldE (P : Program) (t : TypeId) (a : AV) (f : Nat) : Option AV :=
  match a, P.underlying t with
  | .agg l, some (.struct fs) => match fs[f]? with
    | some d => partE P d.type (navL l f [] d.offset)
    | none => none
  | _, _ => none

/-- An index within bounds. -/
def idx (ix : AV) (len : Nat) : Option Nat := match ix with
  | .v (.int _ n) => bif decide (0 ≤ n) && decide (n < len) then some n.toNat else none
  | _ => none

def indexAddrE (P : Program) (h : Heap) (t : TypeId) (a ix : AV) : Option AV :=
  match P.underlying t with
  | some (.array len e) => match szOf P e, idx ix len with
    | some k, some j => match a with
      | .ptr id gen i p o => some (.ptr id gen i (p ++ [j]) (o + j * k))
      | .rop (.agg l) => match navL l j [] (j * k) with
        | some y => some (.rop y)
        | none => none
      | _ => none
    | _, _ => none
  | some (.slice e) => match szOf P e, a with
    | some k, .lit k' _ l => match idx ix l.length with
      | some j => bif Nat.beq k k' then
          match l[j]? with
          | some y => some (.rop y)
          | none => none
        else none
      | none => none
    | some k, .sl id gen off len => match idx ix len, h[id]? with
      | some j, some (.row k' g _ _) => bif Nat.beq k k' && Nat.beq g gen then some (.ptr id gen (off + j) [] 0) else none
      | _, _ => none
    | some k, .isl id gen i p o k' off len _ => match idx ix len with
      | some j => bif Nat.beq k k' then some (.ptr id gen i (p ++ [off + j]) (o + (off + j) * k)) else none
      | none => none
    | _, _ => none
  | _ => none

def indexE (P : Program) (t : TypeId) (a ix : AV) : Option AV :=
  match P.underlying t, a with
  | some (.array len e), .agg l => match szOf P e, idx ix len with
    | some k, some j => partE P e (navL l j [] (j * k))
    | _, _ => none
  | some .string, .v (.string s) => match idx ix s.size with
    | some j => match s[j]? with
      | some b => some (.v (.int .u8 b.toNat))
      | none => none
    | none => none
  | _, _ => none

def bound (x : Option AV) (dflt most : Nat) : Option Nat := match x with
  | none => some dflt
  | some (.v (.int _ n)) => bif decide (0 ≤ n) && decide (n ≤ most) then some n.toNat else none
  | _ => none

/-- A slice expression: 'lo', 'hi' (each may lack), no third index (a third one: what comes is not told). -/
def sliceE (P : Program) (h : Heap) (t : TypeId) (a : AV) (lo hi mx : Option AV) : Option AV :=
  bif mx.isSome && hi.isNone then none else
  match P.underlying t with
  | some .string => match a, mx with
    | .v (.string s), none => match bound hi s.size s.size with
      | some q => match bound lo 0 q with
        | some p => some (.v (.string (s.extract p q)))
        | none => none
      | none => none
    | _, _ => none
  | some (.slice e) => match a, szOf P e with
    | .v (.slice none 0 0), some _ => match bound mx 0 0 with
      | some _ => match bound hi 0 0 with
        | some q => match bound lo 0 q with
          | some _ => some (.v (.slice none 0 0))
          | none => none
        | none => none
      | none => none
    | .lit k full l, some k' => match bound mx l.length l.length with
      | some m => match bound hi l.length m with
        | some q => match bound lo 0 q with
          | some p => bif Nat.beq k k' then some (.lit k (bif mx.isNone then full && Nat.beq q l.length else Nat.beq q m) ((l.take q).drop p)) else none
          | none => none
        | none => none
      | none => none
    | .sl id gen off len, some k => match h[id]? with
      | some (.row k' g els _) => bif Nat.beq g gen && Nat.beq k k' then
          match bound mx (els.length - off) (els.length - off) with
          | some m => match bound hi len m with
            | some q => match bound lo 0 q with
              | some p => some (bif mx.isNone then .sl id gen (off + p) (q - p) else bif Nat.beq p m then .lit k true [] else .any)
              | none => none
            | none => none
          | none => none
        else none
      | _ => none
    | .isl id gen i path o k' off len n, some k => match bound mx (n - off) (n - off) with
      | some m => match bound hi len m with
        | some q => match bound lo 0 q with
          | some p => bif Nat.beq k k' && mx.isNone then some (.isl id gen i path o k (off + p) (q - p) n) else none
          | none => none
        | none => none
      | none => none
    | _, _ => none
  | some (.array n e) => match szOf P e, mx with
    | some k, none => match bound hi n n with
      | some q => match bound lo 0 q with
        | some p => match a with
          | .ptr id gen i path o => some (.isl id gen i path o k p (q - p) n)
          | .rop (.agg l) => bif Nat.beq l.length n && allK k l then some (.lit k false ((l.take q).drop p)) else none
          | _ => none
        | none => none
      | none => none
    | _, _ => none
  | _ => none

def buildE (E : Env) (t : TypeId) (ps : List (Nat × AV)) : Option AV :=
  match E.P.underlying t, E.zero t with
  | some (.struct fs), some (.agg z) => match placesE E.P fs.toList with
    | some pl => match setParts (fun i => pl[i]?) z ps with
      | some l => some (.agg l)
      | none => none
    | none => none
  | some (.array _ e), some (.agg z) => match szOf E.P e with
    | some k => match setParts (fun i => some (i * k, k)) z ps with
      | some l => some (.agg l)
      | none => none
    | none => none
  | _, _ => none

/-- A row's zero values. -/
def baseE (E : Env) (e : TypeId) (len k : Nat) : Option (List AV) := bif Nat.beq len 0 then some [] else
  match E.zero e with
  | some z => bif Nat.beq (leafs z) k then some (List.replicate len z) else none
  | none => none

/-- The operations that call nothing: the value (the empty tuple where there is none), the heap, what was stored to. -/
def opE (E : Env) (f : FuncId) (fr : FR) (h : Heap) (o : Oper) : Option (AV × Heap × Option (Nat × Bool)) :=
  let P := E.P
  let one (x : Option AV) : Option (AV × Heap × Option (Nat × Bool)) := match x with
    | some y => some (y, h, none)
    | none => none
  match o.op with
  | .move x | .assign x => one (ev fr x)
  | .pick c a b => match ev fr c with
    | some (.v (.bool true)) => one (ev fr a)
    | some (.v (.bool false)) => one (ev fr b)
    | _ => none
  | .alloc t => match E.zero t with
    | some z => bif Nat.ble 1 (leafs z) then some (.ptr h.length 0 0 [] 0, newRow h (leafs z) [z] ⟨true, t⟩, none) else none
    | none => none
  | .box t x => match ev fr x with
    | some y => bif Nat.ble 1 (leafs y) && !isTupA y then some (.ptr h.length 0 0 [] 0, newRow h (leafs y) [y] ⟨true, t⟩, none) else none
    | none => none
  | .build t ps => match evP fr ps.toList with
    | some qs => one (buildE E t qs)
    | none => none
  | .buildSlice t len ps => match evP fr ps.toList, P.underlying t with
    | some qs, some (.slice e) => match szOf P e with
      | some k =>
        match baseE E e len k with
        | some zs => match setParts (fun i => some (i * k, k)) zs qs with
          | some l => bif Nat.ble (len * k) 16777216 && Nat.ble 1 k then
              bif E.rows f then some (.sl h.length 0 0 len, newRow h k l ⟨true, e⟩, none) else some (.lit k true l, h, none)
            else none
          | none => none
        | none => none
      | none => none
    | _, _ => none
  | .load t a => match ev fr a with
    | some p => one (loadE P h t p)
    | none => none
  | .store t a x => match ev fr a, ev fr x with
    | some p, some y => match storeE P h t p y with
      | some (h', id) => some (.tup [], h', some (id, !idfree y))
      | none => none
    | _, _ => none
  | .nilCheck x => match ev fr x with
    | some (.ptr id gen i p q) => some (.ptr id gen i p q, h, none)
    | some (.rop y) => some (.rop y, h, none)
    | some (.fn (.func g) a b) => some (.fn (.func g) a b, h, none)
    | _ => none
  | .binOp op t x y _ => match ev fr x, ev fr y with
    | some a, some b => one (binE P op t x y a b)
    | _, _ => none
  | .unOp op _ x => match ev fr x with
    | some a => match toV a with
      | some b => one (pure1 (prun P (Op.unary op b)))
      | none => none
    | none => none
  | .convert s t x => match ev fr x with
    | some a => match P.underlying s, P.underlying t, a with
      | some .string, some (.slice e), .v (.string b) => match P.underlying e with
        | some (.int .u8) => some (.lit 1 false (ofBytes b.data.toList), h, none)
        | _ => none
      | some (.slice e), some .string, a => match P.underlying e with
        | some (.int .u8) => match strOf h a with
          | some b => some (.v (.string b), h, none)
          | none => none
        | _ => none
      | _, _, a => match toV a with
        | some b => one (pure1 (prun P (convert s t b)))
        | none => one (convPtr P h s t a)
    | none => none
  | .makeFunc g a b => match evL fr a.toList, evL fr b.toList with
    | some x, some y => some (.fn g x y, h, none)
    | _, _ => none
  | .makeSlice t l c => match P.underlying t, ev fr l, ev fr c with
    | some (.slice e), some (.v (.int _ n)), some (.v (.int _ m)) => match E.zero e with
      | some z => bif Nat.beq ((szOf P e).getD 0) (leafs z) && decide (n = m) && decide (0 ≤ n) && decide (n * ((P.info? e).map (·.bytes)).getD 0 ≤ 140737488355328) && Nat.ble 1 (leafs z) && decide (n ≤ 140737488355328) then
          some (.sl h.length 0 0 n.toNat, newRow h (leafs z) (List.replicate n.toNat z) ⟨true, e⟩, none)
        else none
      | none => none
    | _, _, _ => none
  | .makeMap t none => match P.underlying t with
    | some (.map _ _) => some (.map h.length, h ++ [.map [] 0], none)
    | _ => none
  | .slice t x lo hi mx => match ev fr x, evO lo, evO hi, evO mx with
    | some a, some l, some r, some m => one (sliceE P h t a l r m)
    | _, _, _, _ => none
  | .fieldAddr t x g => match ev fr x with
    | some a => one (fieldAddrE P t a g)
    | none => none
  | .field t x g => match ev fr x with
    | some a => one (fieldE P t a g)
    | none => none
  | .indexAddr t x i => match ev fr x, ev fr i with
    | some a, some j => one (indexAddrE P h t a j)
    | _, _ => none
  | .index t x i => match ev fr x, ev fr i with
    | some a, some j => one (indexE P t a j)
    | _, _ => none
  | .extract x i => match ev fr x with
    | some (.tup l) => one l[i]?
    | _ => none
  | _ => none
where
  evO (x : Option Operand) : Option (Option AV) := match x with
    | none => some none
    | some y => match ev fr y with
      | some z => some (some z)
      | none => none

end Go.AM
