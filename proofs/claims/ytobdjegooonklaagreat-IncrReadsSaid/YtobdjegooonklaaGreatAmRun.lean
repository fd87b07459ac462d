/- The abstract machine, second part: builtins, maps, regions, code, calls. Conditions: none. -/
import Derived.Test.YtobdjegooonklaaGreatAmCore
namespace Go.AM
open Go

inductive Cl where
  | skip
  | pure
  | rd (id : Option Nat)
  | st (id : Nat)
  | quiet
  | w

def compat : Cl → Cl → Bool
  | .skip, _ | _, .skip | .pure, _ | _, .pure => true
  | .rd _, .rd _ | .rd _, .quiet | .quiet, .rd _ | .quiet, .quiet => true
  | .rd (some i), .st j | .st j, .rd (some i) => !(Nat.beq i j)
  | _, _ => false

abbrev OpRes := Option (AV × Heap × Option (Nat × Bool) × Cl)

/-! ### Maps -/
def keysV : List (AV × AV × Nat) → Option (List MapEntry)
  | [] => some []
  | (k, _, b) :: l => match toV k, keysV l with
    | some x, some xs => some (⟨x, .nilFunc, b⟩ :: xs)
    | _, _ => none

/-- Where the key stands (none: nowhere); nothing where that can't be told. -/
def findE (P : Program) (kt : TypeId) (em : Bool) (es : List (AV × AV × Nat)) (key : AV) : Option (Option Nat) :=
  match keysV es, toV key with
  | some vs, some k => match prun P (do Instr.checkKey em 10000 kt k; Instr.findKey kt k vs) with
    | some (some (i, _)) => some (some i)
    | some none => some none
    | none => none
  | _, _ => none

def lookupE (E : Env) (h : Heap) (t : TypeId) (m k : AV) (ok : Bool) : Option AV :=
  match E.P.underlying t with
  | some (.map kt e) =>
    let r : Option (AV × Bool) := match m with
      | .v (.map none) => match findE E.P kt true [] k, E.zero e with
        | some none, some z => some (z, false)
        | _, _ => none
      | .map id => match h[id]? with
        | some (.map es _) => match findE E.P kt es.isEmpty es k with
          | some (some i) => match es[i]? with
            | some (_, x, _) => some (x, true)
            | none => none
          | some none => match E.zero e with
            | some z => some (z, false)
            | none => none
          | none => none
        | _ => none
      | _ => none
    match r with
    | some (x, b) => some (bif ok then .tup [x, .v (.bool b)] else x)
    | none => none
  | _ => none

def updateE (E : Env) (h : Heap) (t : TypeId) (m k x : AV) : Option (Heap × Nat) :=
  match E.P.underlying t, m with
  | some (.map kt _), .map id => match h[id]? with
    | some (.map es c) => match findE E.P kt false es k with
      | some (some i) => match es[i]? with
        | some (k0, _, b) => match toV k0, toV k with
          | some o, some n => match prun E.P (Instr.keyThatStays o n) with
            | some _ => some (h.set id (.map (es.set i (k, x, b)) c), id)
            | none => none
          | _, _ => none
        | none => none
      | some none => some (h.set id (.map (es ++ [(k, x, c)]) (c + 1)), id)
      | none => none
    | _ => none
  | _, _ => none

/-! ### Builtins -/
def srcEls (P : Program) (Z : List (TypeId × AV)) (h : Heap) (t e : TypeId) (k : Nat) (x : AV) : Option (List AV) :=
  match P.underlying t, x with
  | some (.int _), .v (.int .i64 n) => match assoc Z e with
    | some z => bif decide (0 ≤ n) && decide (n ≤ 16777216) && Nat.beq (leafs z) k then some (List.replicate n.toNat z) else none
    | none => none
  | some .string, .v (.string s) => bif Nat.beq k 1 then some (ofBytes s.data.toList) else none
  | some (.slice _), .v (.slice none 0 0) => some []
  | some (.slice _), x => match elsOf h x with
    | some (k', l) => bif Nat.beq k k' then some l else none
    | none => none
  | _, _ => none

/-- Elements of k cells laid behind a slice. -/
def appendTo (h : Heap) (e : TypeId) (k0 : Nat) (s : AV) (xs : List AV) : OpRes :=
  match s with
  | .v (.slice none 0 0) => bif xs.isEmpty then some (.v (.slice none 0 0), h, none, .quiet) else
      some (.sl h.length 0 0 xs.length, newRow h k0 xs ⟨false, e⟩, none, .w)
  | .lit k full l => bif xs.isEmpty then some (.lit k full l, h, none, .quiet) else
      bif full && Nat.beq k k0 then some (.sl h.length 0 0 (l.length + xs.length), newRow h k0 (l ++ xs) ⟨false, e⟩, none, .w) else none
  | .sl id gen off len => match h[id]? with
    | some (.row k g els ex) => bif Nat.beq k k0 && Nat.beq g gen && Nat.ble (off + len) els.length then
        bif Nat.ble (off + len + xs.length) els.length then
          some (.sl id gen off (len + xs.length), h.set id (.row k g (setFrom els (off + len) xs) ex), some (id, !idfreeL xs), .w)
        else bif Nat.beq off 0 && Nat.beq ex.ty e then
          some (.sl id (gen + 1) 0 (len + xs.length), h.set id (.row k (gen + 1) (els.take len ++ xs) ⟨false, e⟩), some (id, !idfreeL xs), .w)
        else none
      else none
    | _ => none
  | _ => none

def appendE (P : Program) (Z : List (TypeId × AV)) (h : Heap) (ts : Array TypeId) (s x : AV) : OpRes :=
  match ts[0]?, ts[1]? with
  | some st, some xt => match P.underlying st with
    | some (.slice e) => match P.info? e with
      | some i => match i.zero, srcEls P Z h xt e i.size x with
        | some z, some xs => bif Nat.beq z.cells.size i.size && Nat.ble 1 i.size && Nat.ble 1 i.bytes && Nat.ble (((sliceLen s).getD 0 + xs.length) * i.bytes) 140737488355328 then
            appendTo h e i.size s xs
          else none
        | _, _ => none
      | none => none
    | _ => none
  | _, _ => none

def copyE (P : Program) (h : Heap) (ts : Array TypeId) (d x : AV) : OpRes :=
  match ts[0]?, ts[1]? with
  | some dt, some xt => match P.underlying dt with
    | some (.slice e) => match szOf P e with
      | some k => match srcEls P [] h xt e k x, sliceLen d with
        | some xs, some len =>
          let n := min xs.length len
          let ys := xs.take n
          bif Nat.beq n 0 then some (vInt 0, h, none, .quiet) else
          match d with
          | .sl id gen off _ => match h[id]? with
            | some (.row k' g els ex) => bif Nat.beq k k' && Nat.beq g gen && Nat.ble (off + len) els.length then
                some (vInt n, h.set id (.row k' g (setFrom els off ys) ex), some (id, !idfreeL ys), .w) else none
            | _ => none
          | .isl id gen i path o k' off _ m => match h[id]? with
            | some (.row kr g els ex) => bif Nat.beq k k' && Nat.beq g gen then
                match els[i]? with
                | some z => match nav z path o with
                  | some (.agg l) => bif Nat.beq l.length m && allK k l && Nat.ble (off + len) m then
                      match put z path o (.agg (setFrom l off ys)) with
                      | some z' => some (vInt n, h.set id (.row kr g (els.set i z') ex), some (id, !idfreeL ys), .w)
                      | none => none
                    else none
                  | _ => none
                | none => none
              else none
            | _ => none
          | _ => none
        | _, _ => none
      | none => none
    | _ => none
  | _, _ => none

def lenE (P : Program) (h : Heap) (ts : Array TypeId) (x : AV) : OpRes :=
  match ts[0]? with
  | some t => match P.underlying t, x with
    | some .string, .v (.string s) => some (vInt s.size, h, none, .pure)
    | some (.slice _), x => match sliceLen x with
      | some n => some (vInt n, h, none, .pure)
      | none => none
    | some (.array n _), .agg _ => some (vInt n, h, none, .pure)
    | some (.array n _), .ptr .. => some (vInt n, h, none, .pure)
    | some (.map _ _), .v (.map none) => some (vInt 0, h, none, .pure)
    | some (.map _ _), .map id => match h[id]? with
      | some (.map es _) => some (vInt es.length, h, none, .rd (some id))
      | _ => none
    | _, _ => none
  | none => none

def capE (P : Program) (h : Heap) (ts : Array TypeId) (x : AV) : OpRes :=
  match ts[0]? with
  | some t => match P.underlying t, x with
    | some (.slice _), .v (.slice none 0 0) => some (vInt 0, h, none, .pure)
    | some (.slice _), .lit _ true l => some (vInt l.length, h, none, .pure)
    | some (.slice _), .isl _ _ _ _ _ _ off _ n => some (vInt (n - off), h, none, .pure)
    | some (.slice _), .sl id gen off _ => match h[id]? with
      | some (.row _ g els ex) => bif Nat.beq g gen && ex.full then some (vInt (els.length - off), h, none, .rd (some id)) else none
      | _ => none
    | _, _ => none
  | none => none

def clearE (E : Env) (h : Heap) (ts : Array TypeId) (x : AV) : OpRes :=
  match ts[0]? with
  | some t => match E.P.underlying t, x with
    | some (.slice _), .v (.slice none 0 0) => some (.tup [], h, none, .quiet)
    | some (.slice e), .sl id gen off len => match h[id]?, E.zero e with
      | some (.row k g els ex), some z => bif Nat.beq g gen && Nat.beq (leafs z) k && Nat.ble (off + len) els.length then
          some (.tup [], h.set id (.row k g (setFrom els off (List.replicate len z)) ex), some (id, false), .w) else none
      | _, _ => none
    | _, _ => none
  | none => none

def deleteE (E : Env) (h : Heap) (ts : Array TypeId) (m k : AV) : OpRes :=
  match ts[0]? with
  | some t => match E.P.underlying t, m with
    | some (.map kt _), .map id => match h[id]? with
      | some (.map es c) => match findE E.P kt es.isEmpty es k with
        | some (some i) => some (.tup [], h.set id (.map (es.eraseIdx i) c), some (id, false), .w)
        | some none => some (.tup [], h, none, .rd (some id))
        | none => none
      | _ => none
    | _, _ => none
  | none => none

def sliceDataE (h : Heap) (x : AV) : OpRes :=
  match x with
  | .v (.slice none 0 0) => some (.v (.pointer none), h, none, .pure)
  | .sl id gen off _ => match h[id]? with
    | some (.row _ g els _) => bif Nat.beq g gen && Nat.blt off els.length then some (.ptr id gen off [] 0, h, none, .rd (some id)) else none
    | _ => none
  | _ => none

def bytesOK : List AV → Bool
  | [] => true
  | .v (.int .u8 n) :: l => decide (0 ≤ n) && decide (n < 256) && bytesOK l
  | _ => false

/-- The row's bytes are a string from here on: nobody writes them again. -/
def unsafeStringE (P : Program) (h : Heap) (ts : Array TypeId) (x n : AV) : OpRes :=
  match ts.toList, n with
  | [pt, _], .v (.int .i64 n) => bif decide (n = 0) then (match x with
        | .v (.pointer none) => some (.v (.string ByteArray.empty), h, none, .pure)
        | .ptr .. => some (.v (.string ByteArray.empty), h, none, .pure)
        | _ => none)
      else match x, P.underlying pt with
        | .ptr id gen 0 [] 0, some (.pointer u) => match h[id]? with
          | some (.row k g els ex) => match bytesL (els.take n.toNat) with
            | some bs => bif Nat.beq g gen && Nat.beq k 1 && decide (0 ≤ n) && Nat.ble n.toNat els.length && Nat.beq (P.cellsOf ex.ty) 1 && Nat.beq u ex.ty && bytesOK (els.take n.toNat) then
                some (.v (.string ⟨bs.toArray⟩), h.set id .dead, some (id, false), .w) else none
            | none => none
          | _ => none
        | _, _ => none
  | _, _ => none

def toVL : List AV → Option (List Value)
  | [] => some []
  | x :: l => match toV x, toVL l with
    | some y, some ys => some (y :: ys)
    | _, _ => none

def builtinE (E : Env) (h : Heap) (b : Builtin) (ts : Array TypeId) (ty : TypeId) (args : List AV) : OpRes :=
  let pureB (s : Array Value → Sem Value) : OpRes := match toVL args with
    | some vs => match pure1 (prun E.P (s vs.toArray)) with
      | some y => some (y, h, none, .pure)
      | none => none
    | none => none
  match b, args with
  | .append, [s, x] => appendE E.P E.zeros h ts s x
  | .copy, [d, x] => copyE E.P h ts d x
  | .len, [x] => lenE E.P h ts x
  | .cap, [x] => capE E.P h ts x
  | .clear, [x] => clearE E h ts x
  | .delete, [m, k] => deleteE E h ts m k
  | .min, _ => pureB (Builtin.min_ ts ty)
  | .max, _ => pureB (Builtin.max_ ts ty)
  | .real, _ => pureB (Builtin.real_ ts ty)
  | .imag, _ => pureB (Builtin.imag_ ts ty)
  | .complex, _ => pureB (Builtin.complex_ ts ty)
  | .unsafeSliceData, [x] => sliceDataE h x
  | .unsafeString, [x, n] => unsafeStringE E.P h ts x n
  | _, _ => none

/-! ### The state, regions, code -/
structure St where
  fr : FR
  h : Heap
  ds : List Nat
  ls : List Nat

inductive Ex where
  | normal
  | exit (id : Nat)
  | goto (l : Nat)
  | ret

abbrev CallK := FuncId → List AV → Heap → Option (AV × Heap × Eff)

def putF (nt : Nat) (fr : FR) (dst : Option Tmp) (y : AV) : Option FR := match dst with
  | none => some fr
  | some d => bif Nat.blt d nt then some ((d, y) :: fr) else none

/-- Is the operation carried out? -/
def wantedE (ops : Array Oper) (fr : FR) (o : Oper) : Option Bool :=
  match o.guard with
  | none => some true
  | some (j, want) => match (ops[j]?).bind (·.dst) with
    | some d => match get fr d with
      | some (.v (.bool b)) => some (b == want)
      | some (.tup []) => some false
      | _ => none
    | none => some false

def insLt (n0 a : Nat) (l : List Nat) : List Nat := bif Nat.blt a n0 then ins a l else l

def mergeLt (n0 : Nat) : List Nat → List Nat → List Nat
  | [], l => l
  | a :: r, l => mergeLt n0 r (insLt n0 a l)

structure Out where
  y : AV
  h : Heap
  c : Cl
  ds : List Nat
  ls : List Nat

/-- What an operation that calls nothing reads or writes. -/
def clsOf (E : Env) (f : FuncId) (o : Oper) (fr : FR) : Cl := match o.op with
  | .load _ a => match ev fr a with
    | some (.ptr id ..) => .rd (some id)
    | _ => .pure
  | .store _ a _ => match ev fr a with
    | some (.ptr id ..) => .st id
    | _ => .w
  | .alloc _ | .box _ _ | .makeSlice _ _ _ | .makeMap _ _ => .w
  | .buildSlice _ _ _ => bif E.rows f then .w else .pure
  | .convert _ _ a => match ev fr a with
    | some (.sl id ..) | some (.isl id ..) | some (.ptr id ..) => .rd (some id)
    | _ => .pure
  | .slice _ a _ _ _ | .indexAddr _ a _ => match ev fr a with
    | some (.sl id ..) | some (.isl id ..) => .rd (some id)
    | _ => .pure
  | _ => .pure

def callArgs (fr : FR) (c : Call) : Option (FuncId × List AV) :=
  match c.callee with
  | .value x => match ev fr x, evL fr c.args.toList with
    | some (.fn (.func g) first captured), some l => some (g, first ++ l ++ captured)
    | _, _ => none
  | _ => none

def outOf (y : AV) (h : Heap) (s : Option (Nat × Bool)) (c : Cl) : Out := match s with
  | none => ⟨y, h, c, [], []⟩
  | some (id, b) => ⟨y, h, c, [id], bif b then [id] else []⟩

/-- One operation: what it leaves. -/
def coreO (E : Env) (K : CallK) (f : FuncId) (o : Oper) (fr : FR) (h : Heap) : Option Out :=
  match o.op with
  | .call c => match c.callee with
    | .builtin b => match evL fr c.args.toList with
      | some l => match builtinE E h b c.argTypes o.type l with
        | some (y, h', s, cl) => some (outOf y h' s cl)
        | none => none
      | none => none
    | _ => match callArgs fr c with
      | some (g, l) => match K g l h with
        | some (y, h', e) => some ⟨y, h', bif e.q then .quiet else .w, e.ds, e.ls⟩
        | none => none
      | none => none
  | .mapUpdate t m k x | .insert t m k x => match ev fr m, ev fr k, ev fr x with
    | some m, some k, some x => match updateE E h t m k x with
      | some (h', id) => some (outOf (.tup []) h' (some (id, !idfree x)) .w)
      | none => none
    | _, _, _ => none
  | .lookup t m k ok => match ev fr m, ev fr k with
    | some m', some k => match lookupE E h t m' k ok with
      | some y => some (outOf y h none (match m' with | .map id => .rd (some id) | _ => .pure))
      | none => none
    | _, _ => none
  | _ => match opE E f fr h o with
    | some (y, h', s) => some (outOf y h' s (clsOf E f o fr))
    | none => none

def stepO (E : Env) (K : CallK) (f : FuncId) (nt n0 : Nat) (ops : Array Oper) (o : Oper) (st : St) : Option (St × Cl) :=
  match wantedE ops st.fr o with
  | some false => match putF nt st.fr o.dst (.tup []) with
    | some fr => some ({ st with fr }, .skip)
    | none => none
  | some true => match coreO E K f o st.fr st.h with
    | some x => match putF nt st.fr o.dst x.y with
      | some fr => some ({ fr, h := x.h, ds := mergeLt n0 x.ds st.ds, ls := mergeLt n0 x.ls st.ls }, x.c)
      | none => none
    | none => none
  | none => none

def runOps (E : Env) (K : CallK) (f : FuncId) (nt n0 : Nat) (ops : Array Oper) : List Oper → St → List Cl → Option (St × List Cl)
  | [], st, cs => some (st, cs)
  | o :: os, st, cs => match stepO E K f nt n0 ops o st with
    | some (st', c) => runOps E K f nt n0 ops os st' (c :: cs)
    | none => none

/-- The classes stand last first. -/
def pairsOK (cs : List Cl) : List (Nat × Nat) → Bool
  | [] => true
  | (i, j) :: r => (match cs[cs.length - 1 - i]?, cs[cs.length - 1 - j]? with
    | some a, some b => compat a b
    | _, _ => false) && pairsOK cs r

def keepF : List Nat → FR → FR
  | [], _ => []
  | t :: ts, fr => match get fr t with
    | some y => (t, y) :: keepF ts fr
    | none => keepF ts fr

def maskS (l : List Nat) (st : St) : St := { st with fr := keepF l st.fr }

def loopN (body : St → Option (Ex × St)) (l : List Nat) : Nat → St → Option (Ex × St)
  | 0, _ => none
  | n + 1, st => match body (maskS l st) with
    | some (.normal, st') => loopN body l n st'
    | r => r

def hasLabel : Code → Nat → Bool
  | .seq a b, l => hasLabel a l || hasLabel b l
  | .label l', l => Nat.beq l' l
  | _, _ => false

/-- A scope's body, gone on with at the label to which it jumps. -/
def scopeN (from_ : Nat → St → Option (Ex × St)) (has : Nat → Bool) (l : List Nat) : Nat → Option (Ex × St) → Option (Ex × St)
  | 0, _ => none
  | n + 1, r => match r with
    | some (.goto g, st) => bif has g then scopeN from_ has l n (from_ g (maskS l st)) else some (.goto g, st)
    | r => r

mutual
def exec (E : Env) (K : CallK) (nl : Nat) (f : FuncId) (nt n0 : Nat) : Code → St → Option (Ex × St)
  | .skip, st => some (.normal, st)
  | .label _, st => some (.normal, st)
  | .region id ops draw, st => match runOps E K f nt n0 ops ops.toList st [] with
    | some (st', cs) => bif draw then (bif pairsOK cs (E.pairs f id) then some (.normal, st') else none) else some (.normal, st')
    | none => none
  | .seq a b, st => match exec E K nl f nt n0 a st with
    | some (.normal, st') => exec E K nl f nt n0 b st'
    | r => r
  | .cond c a b, st => match ev st.fr c with
    | some (.v (.bool t)) => match t with
      | true => exec E K nl f nt n0 a st
      | false => exec E K nl f nt n0 b st
    | _ => none
  | .block id b, st => match exec E K nl f nt n0 b st with
    | some (.exit i, st') => bif Nat.beq i id then some (.normal, st') else some (.exit i, st')
    | r => r
  | .loop b, st => loopN (exec E K nl f nt n0 b) (E.masks f) nl st
  | .exit id, st => some (.exit id, st)
  | .goto l, st => some (.goto l, st)
  | .ret, st => some (.ret, st)
  | .scope b, st => scopeN (execFrom E K nl f nt n0 b) (hasLabel b) (E.masks f) nl (exec E K nl f nt n0 b st)
  | .rangeFunc _ _ _ _, _ => none
  | .refuse _, _ => none
def execFrom (E : Env) (K : CallK) (nl : Nat) (f : FuncId) (nt n0 : Nat) : Code → Nat → St → Option (Ex × St)
  | .seq a b, l, st => bif hasLabel a l then
      match execFrom E K nl f nt n0 a l st with
      | some (.normal, st') => exec E K nl f nt n0 b st'
      | r => r
    else execFrom E K nl f nt n0 b l st
  | .label l', l, st => bif Nat.beq l' l then some (.normal, st) else none
  | _, _, _ => none
end

/-! ### Calls -/
mutual
/-- What comes back: a slice over a new row becomes a frozen one. -/
def frz (n0 : Nat) (h : Heap) : AV → Option AV
  | .v x => some (.v x)
  | .any => some .any
  | .agg l => match frzL n0 h l with
    | some l' => some (.agg l')
    | none => none
  | .tup l => match frzL n0 h l with
    | some l' => some (.tup l')
    | none => none
  | .lit k b l => bif idfreeL l then some (.lit k b l) else none
  | .rop x => bif idfree x then some (.rop x) else none
  | .sl id gen off len => bif Nat.blt id n0 then some (.sl id gen off len) else
      match elsOf h (.sl id gen off len) with
      | some (k, l) => bif idfreeL l then some (.lit k false l) else none
      | none => none
  | .isl id gen i path o k off len n => bif Nat.blt id n0 then some (.isl id gen i path o k off len n) else
      match elsOf h (.isl id gen i path o k off len n) with
      | some (k, l) => bif idfreeL l then some (.lit k false l) else none
      | none => none
  | .ptr id gen i path o => bif Nat.blt id n0 then some (.ptr id gen i path o) else none
  | .map id => bif Nat.blt id n0 then some (.map id) else none
  | .fn g a b => bif idfreeL a && idfreeL b then some (.fn g a b) else none
def frzL (n0 : Nat) (h : Heap) : List AV → Option (List AV)
  | [] => some []
  | x :: l => match frz n0 h x, frzL n0 h l with
    | some y, some ys => some (y :: ys)
    | _, _ => none
end

def finish (keep : Bool) (h0 : Heap) (st : St) (r : AV) : AV × Heap × Eff :=
  bif keep then (r, st.h, ⟨st.ds, st.ls, false⟩) else
  match st.ls with
  | [] => match frz h0.length st.h r with
    | some r' => match st.ds with
      | [] => (r', h0, ⟨[], [], true⟩)
      | _ :: _ => (r', st.h.take h0.length, ⟨st.ds, [], false⟩)
    | none => (r, st.h, ⟨st.ds, [], false⟩)
  | _ :: _ => (r, st.h, ⟨st.ds, st.ls, false⟩)

def resultE (P : Program) (st : St) : ResultVar → Option AV
  | .tmp t => get st.fr t
  | .cell a t => match get st.fr a with
    | some p => loadE P st.h t p
    | none => none

def resultsE (P : Program) (st : St) : List ResultVar → Option (List AV)
  | [] => some []
  | r :: rs => match resultE P st r, resultsE P st rs with
    | some y, some ys => some (y :: ys)
    | _, _ => none

def oneOrTup : List AV → AV
  | [x] => x
  | l => .tup l

def args0 : Nat → List AV → FR
  | _, [] => []
  | i, x :: l => (i, x) :: args0 (i + 1) l

def call (E : Env) : Nat → CallK
  | 0, _, _, _ => none
  | n + 1, f, args, h => match E.ov f with
    | some o => o args h
    | none => match E.P.funcs[f]? with
      | some fn => match fn.body with
        | some c => bif Nat.ble args.length fn.ntmps then
            match exec E (call E n) n f fn.ntmps h.length c ⟨args0 0 args, h, [], []⟩ with
            | some (.normal, st) | some (.ret, st) => match resultsE E.P st fn.results.toList with
              | some rs => some (finish (E.keep f) h st (oneOrTup rs))
              | none => none
            | _ => none
          else none
        | none => none
      | none => none

/-! ### Regions whose order is drawn: which pairs no edge orders -/
def reach (ops : List Oper) : List Nat :=   -- for each operation the bits of those that come ahead of it
  (ops.foldl (fun (acc : List Nat) o => acc ++ [o.after.toList.foldl (fun b e => bif Region.binds .any e then Nat.lor b (Nat.lor (2 ^ e.on) (acc.getD e.on 0)) else b) 0]) [])

end Go.AM
