/- The abstract machine as rules for rewriting. Conditions: none. -/
import Derived.Test.YtobdjegooonklaaGreatAmLaw
import Derived.Test.YtobdjegooonklaaGreatAmMaps
import Derived.Laws.Strings
import Derived.Laws.Strings2
import Derived.WideShapes
set_option linter.defProp false
set_option linter.unusedVariables false
namespace Go.AM
open Go

/-- What waits behind a piece of code. -/
inductive Fr where
  | seq (c : Code)
  | block (id : Nat)

theorem bleE (a b : Nat) : Nat.ble a b = decide (a ≤ b) := by
  by_cases hd : a ≤ b
  · rw [decide_eq_true hd]; exact Nat.ble_eq_true_of_le hd
  · rw [decide_eq_false hd]
    cases hb : Nat.ble a b with
    | true => exact (hd (Nat.le_of_ble_eq_true hb)).elim
    | false => rfl
theorem beqE (a b : Nat) : Nat.beq a b = decide (a = b) := by
  by_cases hd : a = b
  · subst hd; simp
  · rw [decide_eq_false hd]
    cases hb : Nat.beq a b with
    | true => exact (hd (Nat.eq_of_beq_eq_true hb)).elim
    | false => rfl
theorem bltE (a b : Nat) : Nat.blt a b = decide (a < b) := by
  by_cases hd : a < b
  · rw [decide_eq_true hd]; exact Nat.ble_eq_true_of_le hd
  · rw [decide_eq_false hd]
    cases hb : Nat.blt a b with
    | true => exact (hd (Nat.le_of_ble_eq_true hb)).elim
    | false => rfl

section
variable (E : Env) (K : CallK) (nl : Nat) (f : FuncId) (nt n0 : Nat)

def cont : List Fr → Ex → St → Option (Ex × St)
  | [], ex, st => some (ex, st)
  | .seq c :: k, ex, st => match ex with
    | .normal => match exec E K nl f nt n0 c st with
      | some (ex', st') => cont k ex' st'
      | none => none
    | ex => cont k ex st
  | .block id :: k, ex, st => match ex with
    | .exit i => bif Nat.beq i id then cont k .normal st else cont k (.exit i) st
    | ex => cont k ex st

def behind (k : List Fr) (r : Option (Ex × St)) : Option (Ex × St) := match r with
  | some (ex, st) => cont E K nl f nt n0 k ex st
  | none => none

def at_ (k : List Fr) (c : Code) (fr : FR) (h : Heap) (ds ls : List Nat) : Option (Ex × St) := behind E K nl f nt n0 k (exec E K nl f nt n0 c ⟨fr, h, ds, ls⟩)
def co (k : List Fr) (ex : Ex) (fr : FR) (h : Heap) (ds ls : List Nat) : Option (Ex × St) := cont E K nl f nt n0 k ex ⟨fr, h, ds, ls⟩
def lp (k : List Fr) (r : Option (Ex × St)) : Option (Ex × St) := behind E K nl f nt n0 k r
def cnd (k : List Fr) (a b : Code) (v : Option AV) (fr : FR) (h : Heap) (ds ls : List Nat) : Option (Ex × St) := match v with
  | some (.v (.bool t)) => match t with
    | true => at_ E K nl f nt n0 k a fr h ds ls
    | false => at_ E K nl f nt n0 k b fr h ds ls
  | _ => none

def rn (k : List Fr) (ops : Array Oper) (os : List Oper) (fr : FR) (h : Heap) (ds ls : List Nat) : Option (Ex × St) := match runOps E K f nt n0 ops os ⟨fr, h, ds, ls⟩ [] with
  | some (st', _) => cont E K nl f nt n0 k .normal st'
  | none => none
def rd (k : List Fr) (id : Nat) (ops : Array Oper) (os : List Oper) (cs : List Cl) (fr : FR) (h : Heap) (ds ls : List Nat) : Option (Ex × St) := match runOps E K f nt n0 ops os ⟨fr, h, ds, ls⟩ cs with
  | some (st', cs') => bif pairsOK cs' (E.pairs f id) then cont E K nl f nt n0 k .normal st' else none
  | none => none
def pn (k : List Fr) (ops : Array Oper) (d : Option Tmp) (os : List Oper) (fr : FR) (ds ls : List Nat) (x : Option Out) : Option (Ex × St) := match x with
  | some x => match putF nt fr d x.y with
    | some fr' => rn E K nl f nt n0 k ops os fr' x.h (mergeLt n0 x.ds ds) (mergeLt n0 x.ls ls)
    | none => none
  | none => none
def pd (k : List Fr) (id : Nat) (ops : Array Oper) (d : Option Tmp) (os : List Oper) (cs : List Cl) (fr : FR) (ds ls : List Nat) (x : Option Out) : Option (Ex × St) := match x with
  | some x => match putF nt fr d x.y with
    | some fr' => rd E K nl f nt n0 k id ops os (x.c :: cs) fr' x.h (mergeLt n0 x.ds ds) (mergeLt n0 x.ls ls)
    | none => none
  | none => none
def wn (k : List Fr) (ops : Array Oper) (o : Oper) (os : List Oper) (fr : FR) (h : Heap) (ds ls : List Nat) (b : Option Bool) : Option (Ex × St) := match b with
  | some false => match putF nt fr o.dst (.tup []) with
    | some fr' => rn E K nl f nt n0 k ops os fr' h ds ls
    | none => none
  | some true => pn E K nl f nt n0 k ops o.dst os fr ds ls (coreO E K f o fr h)
  | none => none
def wd (k : List Fr) (id : Nat) (ops : Array Oper) (o : Oper) (os : List Oper) (cs : List Cl) (fr : FR) (h : Heap) (ds ls : List Nat) (b : Option Bool) : Option (Ex × St) := match b with
  | some false => match putF nt fr o.dst (.tup []) with
    | some fr' => rd E K nl f nt n0 k id ops os (.skip :: cs) fr' h ds ls
    | none => none
  | some true => pd E K nl f nt n0 k id ops o.dst os cs fr ds ls (coreO E K f o fr h)
  | none => none

/-- What a guard says. -/
def grd (v : Option AV) (w : Bool) : Option Bool := match v with
  | some (.v (.bool b)) => some (b == w)
  | some (.tup []) => some false
  | _ => none
end

section
variable {E : Env} {K : CallK} {nl : Nat} {f : FuncId} {nt n0 : Nat} {k : List Fr} {fr : FR} {h : Heap} {ds ls : List Nat} {a b c : Code} {id : Nat} {ops : Array Oper} {os : List Oper} {cs : List Cl} {ty : TypeId} {ps : String} {af : Array Edge} {g : Option (Nat × Bool)} {dst : Option Tmp}

theorem Zaa {ex : Ex} : co E K nl f nt n0 [] ex fr h ds ls = some (ex, ⟨fr, h, ds, ls⟩) := rfl
theorem Zab : co E K nl f nt n0 (.seq c :: k) .normal fr h ds ls = at_ E K nl f nt n0 k c fr h ds ls := rfl
theorem Zac : co E K nl f nt n0 (.seq c :: k) .ret fr h ds ls = co E K nl f nt n0 k .ret fr h ds ls := rfl
theorem Zad {i : Nat} : co E K nl f nt n0 (.seq c :: k) (.exit i) fr h ds ls = co E K nl f nt n0 k (.exit i) fr h ds ls := rfl
theorem Zae {i : Nat} : co E K nl f nt n0 (.seq c :: k) (.goto i) fr h ds ls = co E K nl f nt n0 k (.goto i) fr h ds ls := rfl
theorem Zaf : co E K nl f nt n0 (.block id :: k) .normal fr h ds ls = co E K nl f nt n0 k .normal fr h ds ls := rfl
theorem Zag : co E K nl f nt n0 (.block id :: k) .ret fr h ds ls = co E K nl f nt n0 k .ret fr h ds ls := rfl
theorem Zah {i : Nat} : co E K nl f nt n0 (.block id :: k) (.goto i) fr h ds ls = co E K nl f nt n0 k (.goto i) fr h ds ls := rfl
theorem Zai {i : Nat} : co E K nl f nt n0 (.block id :: k) (.exit i) fr h ds ls = if i = id then co E K nl f nt n0 k .normal fr h ds ls else co E K nl f nt n0 k (.exit i) fr h ds ls := by
  unfold co
  simp only [cont]
  by_cases hi : i = id
  · subst hi; simp
  · have : Nat.beq i id = false := by
      cases hb : Nat.beq i id with
      | true => exact (hi (Nat.eq_of_beq_eq_true hb)).elim
      | false => rfl
    simp [this, hi]

theorem Zaj : at_ E K nl f nt n0 k .skip fr h ds ls = co E K nl f nt n0 k .normal fr h ds ls := by unfold at_; rw [exec]; rfl
theorem Zak {l : Nat} : at_ E K nl f nt n0 k (.label l) fr h ds ls = co E K nl f nt n0 k .normal fr h ds ls := by unfold at_; rw [exec]; rfl
theorem Zal : at_ E K nl f nt n0 k .ret fr h ds ls = co E K nl f nt n0 k .ret fr h ds ls := by unfold at_; rw [exec]; rfl
theorem Zam {i : Nat} : at_ E K nl f nt n0 k (.exit i) fr h ds ls = co E K nl f nt n0 k (.exit i) fr h ds ls := by unfold at_; rw [exec]; rfl
theorem Zan {i : Nat} : at_ E K nl f nt n0 k (.goto i) fr h ds ls = co E K nl f nt n0 k (.goto i) fr h ds ls := by unfold at_; rw [exec]; rfl
theorem Zao : at_ E K nl f nt n0 k (.seq a b) fr h ds ls = at_ E K nl f nt n0 (.seq b :: k) a fr h ds ls := by
  unfold at_
  rw [exec]
  cases he : exec E K nl f nt n0 a ⟨fr, h, ds, ls⟩ with
  | none => rfl
  | some p =>
    obtain ⟨ex, st⟩ := p
    cases ex <;> rfl
theorem Zap : at_ E K nl f nt n0 k (.block id b) fr h ds ls = at_ E K nl f nt n0 (.block id :: k) b fr h ds ls := by
  unfold at_
  rw [exec]
  cases he : exec E K nl f nt n0 b ⟨fr, h, ds, ls⟩ with
  | none => rfl
  | some p =>
    obtain ⟨ex, st⟩ := p
    cases ex with
    | exit i =>
      simp only [behind, cont]
      cases Nat.beq i id <;> rfl
    | _ => rfl
theorem Zaq {c : Operand} : at_ E K nl f nt n0 k (.cond c a b) fr h ds ls = cnd E K nl f nt n0 k a b (ev fr c) fr h ds ls := by
  unfold at_ cnd
  rw [exec]
  cases hv : ev fr c with
  | none => rfl
  | some v =>
    split
    · rename_i t he
      injection he with he
      subst he
      cases t <;> rfl
    · rename_i hn
      split
      · rename_i t he
        exact (hn t (by rw [he])).elim
      · rfl
theorem Zar : cnd E K nl f nt n0 k a b (some (.v (.bool true))) fr h ds ls = at_ E K nl f nt n0 k a fr h ds ls := rfl
theorem Zas : cnd E K nl f nt n0 k a b (some (.v (.bool false))) fr h ds ls = at_ E K nl f nt n0 k b fr h ds ls := rfl
theorem at_loop : at_ E K nl f nt n0 k (.loop b) fr h ds ls = lp E K nl f nt n0 k (loopN (exec E K nl f nt n0 b) (E.masks f) nl ⟨fr, h, ds, ls⟩) := by unfold at_; rw [exec]; rfl
theorem at_scope : at_ E K nl f nt n0 k (.scope b) fr h ds ls = lp E K nl f nt n0 k (scopeN (execFrom E K nl f nt n0 b) (hasLabel b) (E.masks f) nl (exec E K nl f nt n0 b ⟨fr, h, ds, ls⟩)) := by unfold at_; rw [exec]; rfl
theorem Zat {ex : Ex} : lp E K nl f nt n0 k (some (ex, ⟨fr, h, ds, ls⟩)) = co E K nl f nt n0 k ex fr h ds ls := rfl
theorem exec_at {st : St} : exec E K nl f nt n0 c st = at_ E K nl f nt n0 [] c st.fr st.h st.ds st.ls := by
  obtain ⟨fr, h, ds, ls⟩ := st
  unfold at_ behind
  cases exec E K nl f nt n0 c ⟨fr, h, ds, ls⟩ with
  | none => rfl
  | some p => rfl

theorem runOps_cs : ∀ (os : List Oper) (st : St) (cs cs' : List Cl), (runOps E K f nt n0 ops os st cs).map (·.1) = (runOps E K f nt n0 ops os st cs').map (·.1)
  | [], _, _, _ => rfl
  | o :: os, st, cs, cs' => by
    simp only [runOps]
    cases stepO E K f nt n0 ops o st with
    | none => rfl
    | some p => exact runOps_cs os p.1 _ _

theorem rn_any (cs : List Cl) : (match runOps E K f nt n0 ops os ⟨fr, h, ds, ls⟩ cs with | some (st', _) => cont E K nl f nt n0 k .normal st' | none => none) = rn E K nl f nt n0 k ops os fr h ds ls := by
  unfold rn
  have := runOps_cs (E := E) (K := K) (f := f) (nt := nt) (n0 := n0) (ops := ops) os ⟨fr, h, ds, ls⟩ cs []
  cases h1 : runOps E K f nt n0 ops os ⟨fr, h, ds, ls⟩ cs with
  | none =>
    rw [h1] at this
    cases h2 : runOps E K f nt n0 ops os ⟨fr, h, ds, ls⟩ [] with
    | none => rfl
    | some q => rw [h2] at this; cases this
  | some p =>
    rw [h1] at this
    cases h2 : runOps E K f nt n0 ops os ⟨fr, h, ds, ls⟩ [] with
    | none => rw [h2] at this; cases this
    | some q =>
      rw [h2] at this
      obtain ⟨p1, p2⟩ := p
      obtain ⟨q1, q2⟩ := q
      simp only [Option.map_some, Option.some.injEq] at this
      subst this
      rfl

theorem Zau : at_ E K nl f nt n0 k (.region id ops false) fr h ds ls = rn E K nl f nt n0 k ops ops.toList fr h ds ls := by
  unfold at_ rn
  rw [exec]
  cases runOps E K f nt n0 ops ops.toList ⟨fr, h, ds, ls⟩ [] with
  | none => rfl
  | some p => rfl
theorem Zav : at_ E K nl f nt n0 k (.region id ops true) fr h ds ls = rd E K nl f nt n0 k id ops ops.toList [] fr h ds ls := by
  unfold at_ rd
  rw [exec]
  cases runOps E K f nt n0 ops ops.toList ⟨fr, h, ds, ls⟩ [] with
  | none => rfl
  | some p =>
    obtain ⟨st, cs⟩ := p
    simp only [cond_true]
    cases pairsOK cs (E.pairs f id) <;> rfl
theorem Zaw : rn E K nl f nt n0 k ops [] fr h ds ls = co E K nl f nt n0 k .normal fr h ds ls := rfl
theorem Zaz : rd E K nl f nt n0 k id ops [] cs fr h ds ls = bif pairsOK cs (E.pairs f id) then co E K nl f nt n0 k .normal fr h ds ls else none := rfl

theorem rn_consG {o : Oper} : rn E K nl f nt n0 k ops (o :: os) fr h ds ls = wn E K nl f nt n0 k ops o os fr h ds ls (wantedE ops fr o) := by
  unfold rn wn pn
  simp only [runOps, stepO]
  cases wantedE ops fr o with
  | none => rfl
  | some t =>
    cases t with
    | false =>
      dsimp only
      cases putF nt fr o.dst (.tup []) with
      | none => rfl
      | some fr' => exact rn_any _
    | true =>
      dsimp only
      cases coreO E K f o fr h with
      | none => rfl
      | some x =>
        dsimp only
        cases putF nt fr o.dst x.y with
        | none => rfl
        | some fr' => exact rn_any _
theorem Zax {op : Op} : rn E K nl f nt n0 k ops (⟨dst, op, ty, ps, af, none⟩ :: os) fr h ds ls = pn E K nl f nt n0 k ops dst os fr ds ls (coreO E K f ⟨dst, op, ty, ps, af, none⟩ fr h) := by
  rw [rn_consG]; rfl
theorem Zay {op : Op} {j : Nat} {w : Bool} : rn E K nl f nt n0 k ops (⟨dst, op, ty, ps, af, some (j, w)⟩ :: os) fr h ds ls = wn E K nl f nt n0 k ops ⟨dst, op, ty, ps, af, some (j, w)⟩ os fr h ds ls (wantedE ops fr ⟨dst, op, ty, ps, af, some (j, w)⟩) := rn_consG
theorem rd_consG {o : Oper} : rd E K nl f nt n0 k id ops (o :: os) cs fr h ds ls = wd E K nl f nt n0 k id ops o os cs fr h ds ls (wantedE ops fr o) := by
  unfold rd wd pd
  simp only [runOps, stepO]
  cases wantedE ops fr o with
  | none => rfl
  | some t =>
    cases t with
    | false =>
      dsimp only
      cases putF nt fr o.dst (.tup []) <;> rfl
    | true =>
      dsimp only
      cases coreO E K f o fr h with
      | none => rfl
      | some x =>
        dsimp only
        cases putF nt fr o.dst x.y <;> rfl
theorem Zba {op : Op} : rd E K nl f nt n0 k id ops (⟨dst, op, ty, ps, af, none⟩ :: os) cs fr h ds ls = pd E K nl f nt n0 k id ops dst os cs fr ds ls (coreO E K f ⟨dst, op, ty, ps, af, none⟩ fr h) := by
  rw [rd_consG]; rfl
theorem Zbb {op : Op} {j : Nat} {w : Bool} : rd E K nl f nt n0 k id ops (⟨dst, op, ty, ps, af, some (j, w)⟩ :: os) cs fr h ds ls = wd E K nl f nt n0 k id ops ⟨dst, op, ty, ps, af, some (j, w)⟩ os cs fr h ds ls (wantedE ops fr ⟨dst, op, ty, ps, af, some (j, w)⟩) := rd_consG

theorem Zbc {op : Op} : wn E K nl f nt n0 k ops ⟨dst, op, ty, ps, af, g⟩ os fr h ds ls (some true) = pn E K nl f nt n0 k ops dst os fr ds ls (coreO E K f ⟨dst, op, ty, ps, af, g⟩ fr h) := rfl
theorem Zbd {op : Op} {d : Tmp} : wn E K nl f nt n0 k ops ⟨some d, op, ty, ps, af, g⟩ os fr h ds ls (some false) = if d < nt then rn E K nl f nt n0 k ops os ((d, .tup []) :: fr) h ds ls else none := by
  show (match (bif Nat.blt d nt then some ((d, AV.tup []) :: fr) else none) with | some fr' => _ | none => none) = _
  by_cases hd : d < nt
  · have : Nat.blt d nt = true := by rw [bltE]; exact decide_eq_true hd
    simp [this, hd]
  · have : Nat.blt d nt = false := by rw [bltE]; exact decide_eq_false hd
    simp [this, hd]
theorem Zbe {op : Op} : wn E K nl f nt n0 k ops ⟨none, op, ty, ps, af, g⟩ os fr h ds ls (some false) = rn E K nl f nt n0 k ops os fr h ds ls := rfl
theorem Zbf {op : Op} : wd E K nl f nt n0 k id ops ⟨dst, op, ty, ps, af, g⟩ os cs fr h ds ls (some true) = pd E K nl f nt n0 k id ops dst os cs fr ds ls (coreO E K f ⟨dst, op, ty, ps, af, g⟩ fr h) := rfl
theorem Zbg {op : Op} {d : Tmp} : wd E K nl f nt n0 k id ops ⟨some d, op, ty, ps, af, g⟩ os cs fr h ds ls (some false) = if d < nt then rd E K nl f nt n0 k id ops os (.skip :: cs) ((d, .tup []) :: fr) h ds ls else none := by
  show (match (bif Nat.blt d nt then some ((d, AV.tup []) :: fr) else none) with | some fr' => _ | none => none) = _
  by_cases hd : d < nt
  · have : Nat.blt d nt = true := by rw [bltE]; exact decide_eq_true hd
    simp [this, hd]
  · have : Nat.blt d nt = false := by rw [bltE]; exact decide_eq_false hd
    simp [this, hd]
theorem Zbh {op : Op} : wd E K nl f nt n0 k id ops ⟨none, op, ty, ps, af, g⟩ os cs fr h ds ls (some false) = rd E K nl f nt n0 k id ops os (.skip :: cs) fr h ds ls := rfl

theorem Zbi {d : Tmp} {y : AV} {h' : Heap} {c : Cl} {xs ys : List Nat} : pn E K nl f nt n0 k ops (some d) os fr ds ls (some ⟨y, h', c, xs, ys⟩) = if d < nt then rn E K nl f nt n0 k ops os ((d, y) :: fr) h' (mergeLt n0 xs ds) (mergeLt n0 ys ls) else none := by
  show (match (bif Nat.blt d nt then some ((d, y) :: fr) else none) with | some fr' => _ | none => none) = _
  by_cases hd : d < nt
  · have : Nat.blt d nt = true := by rw [bltE]; exact decide_eq_true hd
    simp [this, hd]
  · have : Nat.blt d nt = false := by rw [bltE]; exact decide_eq_false hd
    simp [this, hd]
theorem Zbj {y : AV} {h' : Heap} {c : Cl} {xs ys : List Nat} : pn E K nl f nt n0 k ops none os fr ds ls (some ⟨y, h', c, xs, ys⟩) = rn E K nl f nt n0 k ops os fr h' (mergeLt n0 xs ds) (mergeLt n0 ys ls) := rfl
theorem Zbk {d : Tmp} {y : AV} {h' : Heap} {c : Cl} {xs ys : List Nat} : pd E K nl f nt n0 k id ops (some d) os cs fr ds ls (some ⟨y, h', c, xs, ys⟩) = if d < nt then rd E K nl f nt n0 k id ops os (c :: cs) ((d, y) :: fr) h' (mergeLt n0 xs ds) (mergeLt n0 ys ls) else none := by
  show (match (bif Nat.blt d nt then some ((d, y) :: fr) else none) with | some fr' => _ | none => none) = _
  by_cases hd : d < nt
  · have : Nat.blt d nt = true := by rw [bltE]; exact decide_eq_true hd
    simp [this, hd]
  · have : Nat.blt d nt = false := by rw [bltE]; exact decide_eq_false hd
    simp [this, hd]
theorem Zbl {y : AV} {h' : Heap} {c : Cl} {xs ys : List Nat} : pd E K nl f nt n0 k id ops none os cs fr ds ls (some ⟨y, h', c, xs, ys⟩) = rd E K nl f nt n0 k id ops os (c :: cs) fr h' (mergeLt n0 xs ds) (mergeLt n0 ys ls) := rfl

theorem Zbm {op : Op} {j : Nat} {w : Bool} : wantedE ops fr ⟨dst, op, ty, ps, af, some (j, w)⟩ = match (ops[j]?).bind (·.dst) with
    | some d => grd (AM.get fr d) w
    | none => some false := rfl
theorem Zbn {b w : Bool} : grd (some (.v (.bool b))) w = some (b == w) := rfl
theorem Zbo {w : Bool} : grd (some (.tup [])) w = some false := rfl

theorem Zbp {x : AV} {i t : Nat} : AM.get ((i, x) :: fr) t = if i = t then some x else AM.get fr t := by
  show (bif Nat.beq i t then some x else AM.get fr t) = _
  by_cases hi : i = t
  · subst hi; simp
  · have : Nat.beq i t = false := by
      cases hb : Nat.beq i t with
      | true => exact (hi (Nat.eq_of_beq_eq_true hb)).elim
      | false => rfl
    simp [this, hi]
theorem Zbq {t : Tmp} : ev fr (.tmp t) = AM.get fr t := rfl
theorem Zbr {g : FuncId} : ev fr (.func g) = some (.fn (.func g) [] []) := rfl
theorem Zbs {kd : IntKind} {n : Int} : ev fr (.const (.int kd n)) = some (.v (.int kd n)) := rfl
theorem Zbt {b : Bool} : ev fr (.const (.bool b)) = some (.v (.bool b)) := rfl
theorem Zbu {b : ByteArray} : ev fr (.const (.string b)) = some (.v (.string b)) := rfl
theorem Zbv : ev fr (.const (.pointer none)) = some (.v (.pointer none)) := rfl
theorem Zbw : ev fr (.const (.slice none 0 0)) = some (.v (.slice none 0 0)) := rfl
theorem Zbx : ev fr (.const .nilIface) = some (.v .nilIface) := rfl
theorem Zby {x : Operand} {l : List Operand} : evL fr (x :: l) = match ev fr x, evL fr l with
    | some y, some ys => some (y :: ys)
    | _, _ => none := rfl
theorem Zbz : evL fr [] = some [] := rfl
theorem Zca {i : Nat} {x : Operand} {l : List (Nat × Operand)} : evP fr ((i, x) :: l) = match ev fr x, evP fr l with
    | some y, some ys => some ((i, y) :: ys)
    | _, _ => none := rfl
theorem Zcb : evP fr [] = some [] := rfl

/-! ### The operations -/
def o1 (y : Option AV) (h : Heap) (c : Cl) : Option Out := match y with
  | some y => some ⟨y, h, c, [], []⟩
  | none => none
theorem Zcc {y : AV} {c : Cl} : o1 (some y) h c = some ⟨y, h, c, [], []⟩ := rfl
def ap1 (F : AV → Option AV) (x : Option AV) : Option AV := match x with
  | some x => F x
  | none => none
def ap2 (F : AV → AV → Option AV) (x y : Option AV) : Option AV := match x, y with
  | some x, some y => F x y
  | _, _ => none
theorem Zcd {F : AV → Option AV} {x : AV} : ap1 F (some x) = F x := rfl
theorem Zce {F : AV → AV → Option AV} {x y : AV} : ap2 F (some x) (some y) = F x y := rfl

theorem Zcf {x : Operand} : coreO E K f ⟨dst, .move x, ty, ps, af, g⟩ fr h = o1 (ev fr x) h .pure := by
  unfold coreO o1; simp only [opE]; cases ev fr x <;> rfl
theorem Zcg {x : Operand} : coreO E K f ⟨dst, .assign x, ty, ps, af, g⟩ fr h = o1 (ev fr x) h .pure := by
  unfold coreO o1; simp only [opE]; cases ev fr x <;> rfl

def pk (c a b : Option AV) : Option AV := match c with
  | some (.v (.bool true)) => a
  | some (.v (.bool false)) => b
  | _ => none
theorem Zch {a b : Option AV} : pk (some (.v (.bool true))) a b = a := rfl
theorem Zci {a b : Option AV} : pk (some (.v (.bool false))) a b = b := rfl
theorem Zcj {c x y : Operand} : coreO E K f ⟨dst, .pick c x y, ty, ps, af, g⟩ fr h = o1 (pk (ev fr c) (ev fr x) (ev fr y)) h .pure := by
  unfold coreO o1 pk
  simp only [opE]
  split <;> rename_i hh
  · split at hh
    · rename_i h1
      split at hh
      · rename_i h2; rw [h1]; simp only [h2]; injection hh with hh; cases hh; rfl
      · cases hh
    · rename_i h1
      split at hh
      · rename_i h2; rw [h1]; simp only [h2]; injection hh with hh; cases hh; rfl
      · cases hh
    · cases hh
  · split at hh
    · rename_i h1
      split at hh
      · cases hh
      · rename_i h2; rw [h1]; simp only [h2]
    · rename_i h1
      split at hh
      · cases hh
      · rename_i h2; rw [h1]; simp only [h2]
    · rename_i h1 h2
      split
      · rename_i h3
        split at h3
        · rename_i h4; exact (h1 h4).elim
        · rename_i h4; exact (h2 h4).elim
        · cases h3
      · rfl

theorem Zck {op : BinOp} {t rt : TypeId} {x y : Operand} : coreO E K f ⟨dst, .binOp op t x y rt, ty, ps, af, g⟩ fr h = o1 (ap2 (binE E.P op t x y) (ev fr x) (ev fr y)) h .pure := by
  unfold coreO o1 ap2; simp only [opE]
  cases ev fr x with
  | none => rfl
  | some a => cases ev fr y with
    | none => rfl
    | some b => dsimp only; cases binE E.P op t x y a b <;> rfl
theorem Zcl {t : TypeId} {x : Operand} : coreO E K f ⟨dst, .load t x, ty, ps, af, g⟩ fr h = o1 (ap1 (loadE E.P h t) (ev fr x)) h (clsOf E f ⟨dst, .load t x, ty, ps, af, g⟩ fr) := by
  unfold coreO o1 ap1; simp only [opE]
  cases ev fr x with
  | none => rfl
  | some a => dsimp only; cases loadE E.P h t a <;> rfl
theorem Zcm {t : TypeId} {x : Operand} {i : Nat} : coreO E K f ⟨dst, .field t x i, ty, ps, af, g⟩ fr h = o1 (ap1 (fun a => fieldE E.P t a i) (ev fr x)) h .pure := by
  unfold coreO o1 ap1; simp only [opE]
  cases ev fr x with
  | none => rfl
  | some a => dsimp only; cases fieldE E.P t a i <;> rfl
theorem Zcn {t : TypeId} {x : Operand} {i : Nat} : coreO E K f ⟨dst, .fieldAddr t x i, ty, ps, af, g⟩ fr h = o1 (ap1 (fun a => fieldAddrE E.P t a i) (ev fr x)) h .pure := by
  unfold coreO o1 ap1; simp only [opE]
  cases ev fr x with
  | none => rfl
  | some a => dsimp only; cases fieldAddrE E.P t a i <;> rfl
theorem Zco {t : TypeId} {x i : Operand} : coreO E K f ⟨dst, .index t x i, ty, ps, af, g⟩ fr h = o1 (ap2 (indexE E.P t) (ev fr x) (ev fr i)) h .pure := by
  unfold coreO o1 ap2; simp only [opE]
  cases ev fr x with
  | none => rfl
  | some a => cases ev fr i with
    | none => rfl
    | some b => dsimp only; cases indexE E.P t a b <;> rfl
theorem Zcp {t : TypeId} {x i : Operand} : coreO E K f ⟨dst, .indexAddr t x i, ty, ps, af, g⟩ fr h = o1 (ap2 (indexAddrE E.P h t) (ev fr x) (ev fr i)) h (clsOf E f ⟨dst, .indexAddr t x i, ty, ps, af, g⟩ fr) := by
  unfold coreO o1 ap2; simp only [opE]
  cases ev fr x with
  | none => rfl
  | some a => cases ev fr i with
    | none => rfl
    | some b => dsimp only; cases indexAddrE E.P h t a b <;> rfl
def exL (i : Nat) : AV → Option AV
  | .tup l => l[i]?
  | _ => none
theorem Zcq {x : Operand} {i : Nat} : coreO E K f ⟨dst, .extract x i, ty, ps, af, g⟩ fr h = o1 (ap1 (exL i) (ev fr x)) h .pure := by
  unfold coreO o1 ap1; simp only [opE]
  cases ev fr x with
  | none => rfl
  | some a => cases a with
    | tup l => dsimp only [exL]; cases l[i]? <;> rfl
    | _ => rfl
def unL (P : Program) (op : UnOp) (a : AV) : Option AV := match toV a with
  | some b => pure1 (prun P (Op.unary op b))
  | none => none
theorem Zcr {op : UnOp} {t : TypeId} {x : Operand} : coreO E K f ⟨dst, .unOp op t x, ty, ps, af, g⟩ fr h = o1 (ap1 (unL E.P op) (ev fr x)) h .pure := by
  unfold coreO o1 ap1 unL; simp only [opE]
  cases ev fr x with
  | none => rfl
  | some a =>
    dsimp only
    cases toV a with
    | none => rfl
    | some b => dsimp only; cases pure1 (prun E.P (Op.unary op b)) <;> rfl
def nlC : AV → Option AV
  | .ptr id gen i p q => some (.ptr id gen i p q)
  | .rop y => some (.rop y)
  | .fn (.func g) a b => some (.fn (.func g) a b)
  | _ => none
theorem Zcs {x : Operand} : coreO E K f ⟨dst, .nilCheck x, ty, ps, af, g⟩ fr h = o1 (ap1 nlC (ev fr x)) h .pure := by
  unfold coreO o1 ap1 nlC; simp only [opE]
  cases ev fr x with
  | none => rfl
  | some a => cases a with
    | fn f2 p q => cases f2 <;> rfl
    | _ => rfl

def alO (h : Heap) (t : TypeId) (z : Option AV) : Option Out := match z with
  | some z => bif Nat.ble 1 (leafs z) then some ⟨.ptr h.length 0 0 [] 0, h ++ [.row (leafs z) 0 [z] ⟨true, t⟩], .w, [], []⟩ else none
  | none => none
theorem Zct {t : TypeId} {z : AV} : alO h t (some z) = bif Nat.ble 1 (leafs z) then some ⟨.ptr h.length 0 0 [] 0, h ++ [.row (leafs z) 0 [z] ⟨true, t⟩], .w, [], []⟩ else none := rfl
theorem Zcu {t : TypeId} : coreO E K f ⟨dst, .alloc t, ty, ps, af, g⟩ fr h = alO h t (E.zero t) := by
  unfold coreO alO; simp only [opE]
  cases E.zero t with
  | none => rfl
  | some z => dsimp only; cases Nat.ble 1 (leafs z) <;> rfl
def bxO (h : Heap) (t : TypeId) (y : Option AV) : Option Out := match y with
  | some y => bif Nat.ble 1 (leafs y) && !isTupA y then some ⟨.ptr h.length 0 0 [] 0, h ++ [.row (leafs y) 0 [y] ⟨true, t⟩], .w, [], []⟩ else none
  | none => none
theorem Zcv {t : TypeId} {y : AV} : bxO h t (some y) = bif Nat.ble 1 (leafs y) && !isTupA y then some ⟨.ptr h.length 0 0 [] 0, h ++ [.row (leafs y) 0 [y] ⟨true, t⟩], .w, [], []⟩ else none := rfl
theorem Zcw {t : TypeId} {x : Operand} : coreO E K f ⟨dst, .box t x, ty, ps, af, g⟩ fr h = bxO h t (ev fr x) := by
  unfold coreO bxO; simp only [opE]
  cases ev fr x with
  | none => rfl
  | some z => dsimp only; cases (Nat.ble 1 (leafs z) && !isTupA z) <;> rfl
def stO (P : Program) (h : Heap) (t : TypeId) (c : Cl) (p y : Option AV) : Option Out := match p, y with
  | some p, some y => match storeE P h t p y with
    | some (h', id) => some ⟨.tup [], h', c, [id], bif !idfree y then [id] else []⟩
    | none => none
  | _, _ => none
theorem Zcx {t : TypeId} {x y : Operand} : coreO E K f ⟨dst, .store t x y, ty, ps, af, g⟩ fr h = stO E.P h t (clsOf E f ⟨dst, .store t x y, ty, ps, af, g⟩ fr) (ev fr x) (ev fr y) := by
  unfold coreO stO; simp only [opE]
  cases ev fr x with
  | none => rfl
  | some a => cases ev fr y with
    | none => rfl
    | some b => dsimp only; cases storeE E.P h t a b <;> rfl
theorem Zcy {P : Program} {t : TypeId} {c : Cl} {p y : AV} : stO P h t c (some p) (some y) = match storeE P h t p y with
    | some (h', id) => some ⟨.tup [], h', c, [id], bif !idfree y then [id] else []⟩
    | none => none := rfl

def blO (r : OpRes) : Option Out := match r with
  | some (y, h', s, c) => some (outOf y h' s c)
  | none => none
theorem Zcz {y : AV} {h' : Heap} {c : Cl} : blO (some (y, h', none, c)) = some ⟨y, h', c, [], []⟩ := rfl
theorem Zda {y : AV} {h' : Heap} {c : Cl} {id : Nat} {b : Bool} : blO (some (y, h', some (id, b), c)) = some ⟨y, h', c, [id], bif b then [id] else []⟩ := rfl
def apL (F : List AV → Option Out) (l : Option (List AV)) : Option Out := match l with
  | some l => F l
  | none => none
theorem Zdb {F : List AV → Option Out} {l : List AV} : apL F (some l) = F l := rfl
theorem Zdc {bi : Builtin} {args : Array Operand} {ts : Array TypeId} : coreO E K f ⟨dst, .call { callee := .builtin bi, args := args, argTypes := ts }, ty, ps, af, g⟩ fr h = apL (fun l => blO (builtinE E h bi ts ty l)) (evL fr args.toList) := by
  unfold coreO apL
  dsimp only
  cases evL fr args.toList with
  | none => rfl
  | some l =>
    dsimp only
    unfold blO
    cases builtinE E h bi ts ty l with
    | none => rfl
    | some p => rfl
def kO (r : Option (AV × Heap × Eff)) : Option Out := match r with
  | some (y, h', e) => some ⟨y, h', bif e.q then .quiet else .w, e.ds, e.ls⟩
  | none => none
theorem Zdd {y : AV} {h' : Heap} {xs ys : List Nat} {q : Bool} : kO (some (y, h', ⟨xs, ys, q⟩)) = some ⟨y, h', bif q then .quiet else .w, xs, ys⟩ := rfl
def clO (K : CallK) (h : Heap) (x : Option AV) (l : Option (List AV)) : Option Out := match x, l with
  | some (.fn (.func g) first captured), some l => kO (K g (first ++ l ++ captured) h)
  | _, _ => none
theorem Zde {g : FuncId} {p q l : List AV} : clO K h (some (.fn (.func g) p q)) (some l) = kO (K g (p ++ l ++ q) h) := rfl
theorem Zdf {x : Operand} {args : Array Operand} {ts : Array TypeId} : coreO E K f ⟨dst, .call { callee := .value x, args := args, argTypes := ts }, ty, ps, af, g⟩ fr h = clO K h (ev fr x) (evL fr args.toList) := by
  unfold coreO clO callArgs
  dsimp only
  split
  · rename_i g2 l hh
    split at hh
    · rename_i p q l2 h1 h2
      injection hh with hh
      injection hh with hg hl
      subst hg; subst hl
      rw [h1, h2]
      simp only [kO]
      cases K _ _ h <;> rfl
    · cases hh
  · rename_i hh
    split at hh
    · cases hh
    · rename_i hn
      split
      · rename_i p q l2 h1 h2
        exact (hn _ _ _ _ h1 h2).elim
      · rfl
def opO (r : Option (AV × Heap × Option (Nat × Bool))) (c : Cl) : Option Out := match r with
  | some (y, h', s) => some (outOf y h' s c)
  | none => none
theorem Zdg {y : AV} {h' : Heap} {c : Cl} : opO (some (y, h', none)) c = some ⟨y, h', c, [], []⟩ := rfl
def opN (r : Option (AV × Heap × Option (Nat × Bool))) (c : Cl) : Option Out := match r with
  | some (y, h', s) => some (outOf y h' s (newCl y c))
  | none => none
theorem opN_some {y : AV} {h' : Heap} {c : Cl} : opN (some (y, h', none)) c = some ⟨y, h', newCl y c, [], []⟩ := rfl
theorem core_build {t : TypeId} {xs : Array (Nat × Operand)} : coreO E K f ⟨dst, .build t xs, ty, ps, af, g⟩ fr h = opO (opE E f fr h ⟨dst, .build t xs, ty, ps, af, g⟩) .pure := rfl
theorem core_bslice {t : TypeId} {n : Nat} {xs : Array (Nat × Operand)} : coreO E K f ⟨dst, .buildSlice t n xs, ty, ps, af, g⟩ fr h = opN (opE E f fr h ⟨dst, .buildSlice t n xs, ty, ps, af, g⟩) (clsOf E f ⟨dst, .buildSlice t n xs, ty, ps, af, g⟩ fr) := rfl
theorem core_slice {t : TypeId} {x : Operand} {lo hi mx : Option Operand} : coreO E K f ⟨dst, .slice t x lo hi mx, ty, ps, af, g⟩ fr h = opO (opE E f fr h ⟨dst, .slice t x lo hi mx, ty, ps, af, g⟩) (clsOf E f ⟨dst, .slice t x lo hi mx, ty, ps, af, g⟩ fr) := rfl
theorem core_conv {s t : TypeId} {x : Operand} : coreO E K f ⟨dst, .convert s t x, ty, ps, af, g⟩ fr h = opO (opE E f fr h ⟨dst, .convert s t x, ty, ps, af, g⟩) (clsOf E f ⟨dst, .convert s t x, ty, ps, af, g⟩ fr) := rfl
theorem core_mkfn {x : Fn} {l r : Array Operand} : coreO E K f ⟨dst, .makeFunc x l r, ty, ps, af, g⟩ fr h = opO (opE E f fr h ⟨dst, .makeFunc x l r, ty, ps, af, g⟩) .pure := rfl
theorem core_mkmap {t : TypeId} : coreO E K f ⟨dst, .makeMap t none, ty, ps, af, g⟩ fr h = opO (opE E f fr h ⟨dst, .makeMap t none, ty, ps, af, g⟩) .w := rfl

/-! ### A call -/
def fin (E : Env) (f : FuncId) (h : Heap) (rs : List ResultVar) (r : Option (Ex × St)) : Option (AV × Heap × Eff) := match r with
  | some (.normal, st) | some (.ret, st) => match resultsE E.P st rs with
    | some l => some (finish (E.keep f) h st (oneOrTup l))
    | none => none
  | _ => none
theorem call_at {n : Nat} {args : List AV} {fn : Func} {c : Code} (hov : E.ov f = none) (hf : E.P.funcs[f]? = some fn) (hb : fn.body = some c) (ha : args.length ≤ fn.ntmps) :
    call E (n + 1) f args h = fin E f h fn.results.toList (at_ E (call E n) n f fn.ntmps h.length [] c (args0 0 args) h [] []) := by
  show (match E.ov f with | some o => o args h | none => _) = _
  rw [hov]
  simp only [hf, hb]
  have : Nat.ble args.length fn.ntmps = true := Nat.ble_eq_true_of_le ha
  simp only [this, cond_true]
  rw [exec_at]
  unfold fin
  rfl
theorem Zdr {st : St} {rs : List ResultVar} : fin E f h rs (some (.normal, st)) = match resultsE E.P st rs with
    | some l => some (finish (E.keep f) h st (oneOrTup l))
    | none => none := rfl
theorem Zds {st : St} {rs : List ResultVar} : fin E f h rs (some (.ret, st)) = match resultsE E.P st rs with
    | some l => some (finish (E.keep f) h st (oneOrTup l))
    | none => none := rfl
theorem Zdt {st : St} : resultsE E.P st [] = some [] := rfl
theorem Zdu {st : St} {t : Tmp} {rs : List ResultVar} : resultsE E.P st (.tmp t :: rs) = match AM.get st.fr t, resultsE E.P st rs with
    | some y, some ys => some (y :: ys)
    | _, _ => none := rfl
/-- What a function without freezing leaves. -/
theorem finish_drop {h0 : Heap} {st : St} {r r' : AV} (hl : st.ls = []) (hd : st.ds = []) (hr : frz h0.length st.h r = some r') : finish false h0 st r = (r', h0, ⟨[], [], true⟩) := by
  unfold finish
  simp [hl, hd, hr]
def fzO (h0 : Heap) (r : AV) (h : Heap) (ds : List Nat) : Option AV → AV × Heap × Eff
  | some r' => match ds with
    | [] => (r', h0, ⟨[], [], true⟩)
    | _ :: _ => (r', h.take h0.length, ⟨ds, [], false⟩)
  | none => (r, h, ⟨ds, [], false⟩)
theorem Zem {h0 : Heap} {r : AV} : finish false h0 ⟨fr, h, ds, []⟩ r = fzO h0 r h ds (frz h0.length h r) := by
  unfold finish fzO
  simp only [cond_false]
  cases frz h0.length h r with
  | none => rfl
  | some r' => cases ds <;> rfl
theorem Zen {h0 : Heap} {r r' : AV} : fzO h0 r h [] (some r') = (r', h0, ⟨[], [], true⟩) := rfl
theorem Zeo {h0 : Heap} {r r' : AV} {i : Nat} {l : List Nat} : fzO h0 r h (i :: l) (some r') = (r', h.take h0.length, ⟨i :: l, [], false⟩) := rfl
theorem Zep {h0 : Heap} {r : AV} : finish true h0 ⟨fr, h, ds, ls⟩ r = (r, h, ⟨ds, ls, false⟩) := rfl
theorem Zeq {h0 : Heap} {r : AV} {i : Nat} {l : List Nat} : finish false h0 ⟨fr, h, ds, i :: l⟩ r = (r, h, ⟨ds, i :: l, false⟩) := rfl
theorem Zdv {l : List Nat} : mergeLt n0 [] l = l := rfl
theorem Zdz {i : Nat} {l : List Nat} : mergeLt n0 [i] l = if i < n0 then ins i l else l := by
  show (bif Nat.blt i n0 then ins i l else l) = _
  by_cases hd : i < n0
  · have : Nat.blt i n0 = true := by rw [bltE]; exact decide_eq_true hd
    simp [this, hd]
  · have : Nat.blt i n0 = false := by rw [bltE]; exact decide_eq_false hd
    simp [this, hd]
end

/-! ### Integers -/
section
variable {P : Program} {t : TypeId} {ox oy : Operand} {kd : IntKind} {x y : Int}
theorem Zea : binE P .add t ox oy (.v (.int kd x)) (.v (.int kd y)) = some (.v (.int kd (kd.wrap (x + y)))) := by
  cases kd <;> rfl
theorem Zeb : binE P .sub t ox oy (.v (.int kd x)) (.v (.int kd y)) = some (.v (.int kd (kd.wrap (x - y)))) := by
  cases kd <;> rfl
theorem Zec : binE P .mul t ox oy (.v (.int kd x)) (.v (.int kd y)) = some (.v (.int kd (kd.wrap (x * y)))) := by
  cases kd <;> rfl
theorem Zed : binE P .lss t ox oy (.v (.int kd x)) (.v (.int kd y)) = some (.v (.bool (decide (x < y)))) := by
  cases kd <;> rfl
theorem Zee : binE P .leq t ox oy (.v (.int kd x)) (.v (.int kd y)) = some (.v (.bool (decide (x ≤ y)))) := by
  cases kd <;> rfl
theorem Zef : binE P .gtr t ox oy (.v (.int kd x)) (.v (.int kd y)) = some (.v (.bool (decide (y < x)))) := by
  cases kd <;> rfl
theorem Zeg : binE P .geq t ox oy (.v (.int kd x)) (.v (.int kd y)) = some (.v (.bool (decide (y ≤ x)))) := by
  cases kd <;> rfl
theorem Zeh : binE P .eql t ox oy (.v (.int kd x)) (.v (.int kd y)) = some (.v (.bool (x == y))) := by
  cases kd <;> rfl
theorem Zei : binE P .neq t ox oy (.v (.int kd x)) (.v (.int kd y)) = some (.v (.bool (x != y))) := by
  cases kd <;> rfl
theorem Zej {b : Bool} : unL P .not (.v (.bool b)) = some (.v (.bool !b)) := rfl
end

/-! ### The heap's end -/
section
variable {h l : Heap} {r : Row}
theorem end0 : (h ++ l)[h.length]? = l[0]? := by rw [List.getElem?_append_right (Nat.le_refl _)]; simp
theorem end1 {i : Nat} : (h ++ l)[h.length + i]? = l[i]? := by rw [List.getElem?_append_right (by omega)]; simp
theorem endS0 : (h ++ l).set h.length r = h ++ l.set 0 r := by rw [List.set_append_right _ _ (Nat.le_refl _)]; simp
theorem endS1 {i : Nat} : (h ++ l).set (h.length + i) r = h ++ l.set i r := by rw [List.set_append_right _ _ (by omega)]; simp
end

end Go.AM

set_option linter.unusedVariables false
namespace Go.AM
open Go

section
variable {E : Env} {K : CallK} {nl : Nat} {f : FuncId} {nt n0 : Nat} {fr : FR} {h : Heap} {ty : TypeId} {ps : String} {af : Array Edge} {g : Option (Nat × Bool)} {dst : Option Tmp} {P : Program} {Z : List (TypeId × AV)}

def convE (P : Program) (h : Heap) (s t : TypeId) (a : AV) : Option (AV × Heap × Option (Nat × Bool)) := match P.underlying s, P.underlying t, a with
  | some .string, some (.slice e), .v (.string b) => match P.underlying e with
    | some (.int .u8) => some (.lit 1 false (ofBytes b.data.toList), h, none)
    | _ => none
  | some (.slice e), some .string, a => match P.underlying e with
    | some (.int .u8) => match strOf h a with
      | some b => some (.v (.string b), h, none)
      | none => none
    | _ => none
  | _, _, a => match toV a with
    | some b => match pure1 (prun P (convert s t b)) with
      | some y => some (y, h, none)
      | none => none
    | none => match convPtr P h s t a with
      | some y => some (y, h, none)
      | none => none
def cvO (P : Program) (h : Heap) (s t : TypeId) (c : Cl) (x : Option AV) : Option Out := match x with
  | some a => opO (convE P h s t a) c
  | none => none
theorem Zdp {s t : TypeId} {c : Cl} {a : AV} : cvO P h s t c (some a) = opO (convE P h s t a) c := rfl
theorem Zdo {s t : TypeId} {x : Operand} : coreO E K f ⟨dst, .convert s t x, ty, ps, af, g⟩ fr h = cvO E.P h s t (clsOf E f ⟨dst, .convert s t x, ty, ps, af, g⟩ fr) (ev fr x) := by
  rw [core_conv]
  unfold cvO
  simp only [opE]
  cases ev fr x with
  | none => rfl
  | some a => rfl

def bsE (E : Env) (h : Heap) (f : FuncId) (t : TypeId) (n : Nat) (qs : Option (List (Nat × AV))) : Option (AV × Heap × Option (Nat × Bool)) := match qs, E.P.underlying t with
  | some qs, some (.slice e) => match szOf E.P e with
    | some k => match baseE E e n k with
      | some zs => match setParts (fun i => some (i * k, k)) zs qs with
        | some l => bif Nat.ble (n * k) 16777216 && Nat.ble 1 k then
            bif E.rows f then some (.sl h.length 0 0 n, newRow h k l ⟨true, e⟩, none) else some (.lit k true l, h, none)
          else none
        | none => none
      | none => none
    | none => none
  | _, _ => none
theorem Zdj {t : TypeId} {n : Nat} {xs : Array (Nat × Operand)} : coreO E K f ⟨dst, .buildSlice t n xs, ty, ps, af, g⟩ fr h = opN (bsE E h f t n (evP fr xs.toList)) (clsOf E f ⟨dst, .buildSlice t n xs, ty, ps, af, g⟩ fr) := by
  rw [core_bslice]
  simp only [opE, bsE]
  split
  · rename_i q e h1 h2
    rw [h1, h2]
    rfl
  · rename_i hn
    split
    · rename_i q e h1 h2
      exact (hn _ _ h1 h2).elim
    · rfl

def bdO (E : Env) (h : Heap) (t : TypeId) (qs : Option (List (Nat × AV))) : Option Out := match qs with
  | some qs => o1 (buildE E t qs) h .pure
  | none => none
theorem Zdi {t : TypeId} {qs : List (Nat × AV)} : bdO E h t (some qs) = o1 (buildE E t qs) h .pure := rfl
theorem Zdh {t : TypeId} {xs : Array (Nat × Operand)} : coreO E K f ⟨dst, .build t xs, ty, ps, af, g⟩ fr h = bdO E h t (evP fr xs.toList) := by
  rw [core_build]
  simp only [opE, bdO]
  cases evP fr xs.toList with
  | none => rfl
  | some q => dsimp only; unfold o1; cases buildE E t q <;> rfl

def slO (P : Program) (h : Heap) (t : TypeId) (c : Cl) (a : Option AV) (l r m : Option (Option AV)) : Option Out := match a, l, r, m with
  | some a, some l, some r, some m => o1 (sliceE P h t a l r m) h c
  | _, _, _, _ => none
def evO' (fr : FR) (x : Option Operand) : Option (Option AV) := match x with
  | none => some none
  | some y => match ev fr y with
    | some z => some (some z)
    | none => none
theorem Zdm : evO' fr none = some none := rfl
theorem Zdn {y : Operand} : evO' fr (some y) = match ev fr y with
    | some z => some (some z)
    | none => none := rfl
theorem Zdl {t : TypeId} {c : Cl} {a : AV} {l r m : Option AV} : slO P h t c (some a) (some l) (some r) (some m) = o1 (sliceE P h t a l r m) h c := rfl
theorem Zdk {t : TypeId} {x : Operand} {lo hi mx : Option Operand} : coreO E K f ⟨dst, .slice t x lo hi mx, ty, ps, af, g⟩ fr h = slO E.P h t (clsOf E f ⟨dst, .slice t x lo hi mx, ty, ps, af, g⟩ fr) (ev fr x) (evO' fr lo) (evO' fr hi) (evO' fr mx) := by
  rw [core_slice]
  have e : ∀ y, opE.evO fr y = evO' fr y := fun y => by cases y <;> rfl
  simp only [opE, slO, e]
  cases ev fr x with
  | none => rfl
  | some a => cases evO' fr lo with
    | none => rfl
    | some l => cases evO' fr hi with
      | none => rfl
      | some r => cases evO' fr mx with
        | none => rfl
        | some m => dsimp only; unfold o1; cases sliceE E.P h t a l r m <;> rfl
theorem Zdq {x : Fn} {l r : Array Operand} : coreO E K f ⟨dst, .makeFunc x l r, ty, ps, af, g⟩ fr h = o1 (match evL fr l.toList, evL fr r.toList with
    | some a, some b => some (.fn x a b)
    | _, _ => none) h .pure := by
  rw [core_mkfn]
  simp only [opE]
  cases evL fr l.toList with
  | none => rfl
  | some a => cases evL fr r.toList <;> rfl
theorem core_mm {t : TypeId} {a b : TypeId} (hu : E.P.underlying t = some (.map a b)) : coreO E K f ⟨dst, .makeMap t none, ty, ps, af, g⟩ fr h = some ⟨.map h.length, h ++ [.map [] 0], .w, [], []⟩ := by
  rw [core_mkmap]
  simp only [opE, hu]
  rfl

def apO (h : Heap) (e : TypeId) (k bytes : Nat) (s : AV) (xs : Option (List AV)) : OpRes := match xs with
  | some xs => bif Nat.ble (((sliceLen s).getD 0 + xs.length) * bytes) 140737488355328 then appendTo h e k s xs else none
  | none => none
theorem Zer {e : TypeId} {k bytes : Nat} {s : AV} {xs : List AV} : apO h e k bytes s (some xs) = if ((sliceLen s).getD 0 + xs.length) * bytes ≤ 140737488355328 then appendTo h e k s xs else none := by
  unfold apO
  simp only [bleE]
  by_cases hc : ((sliceLen s).getD 0 + xs.length) * bytes ≤ 140737488355328
  · simp [hc]
  · simp only [hc, decide_false, cond_false, if_false]
theorem ap_of {st xt e : TypeId} {i : TypeInfo} {z : Value} {s x : AV} (h1 : P.underlying st = some (.slice e)) (h2 : P.info? e = some i) (h3 : i.zero = some z) (h4 : (Nat.beq z.cells.size i.size && Nat.ble 1 i.size && Nat.ble 1 i.bytes) = true) :
    appendE P Z h #[st, xt] s x = apO h e i.size i.bytes s (srcEls P Z h xt e i.size x) := by
  unfold appendE apO
  simp only [List.getElem?_toArray, List.getElem?_cons_zero, List.getElem?_cons_succ, h1, h2, h3]
  cases srcEls P Z h xt e i.size x with
  | none => rfl
  | some xs => simp only [h4, Bool.true_and]

theorem ap_at {st xt e k b : Nat} {s x : AV} (h1 : P.underlying st = some (.slice e)) (h2 : ((P.info? e).map fun i => (i.zero.map fun z => z.cells.size, i.size, i.bytes)) = some (some k, k, b)) (hk : 1 ≤ k) (hb : 1 ≤ b) :
    appendE P Z h #[st, xt] s x = apO h e k b s (srcEls P Z h xt e k x) := by
  cases hi : P.info? e with
  | none => rw [hi] at h2; cases h2
  | some i =>
    rw [hi] at h2
    simp only [Option.map_some, Option.some.injEq, Prod.mk.injEq] at h2
    obtain ⟨h3, h4, h5⟩ := h2
    cases hz : i.zero with
    | none => rw [hz] at h3; cases h3
    | some z =>
      rw [hz] at h3
      simp only [Option.map_some, Option.some.injEq] at h3
      rw [← h4, ← h5]
      refine ap_of h1 hi hz ?_
      rw [h3, h4, h5]
      simp [Nat.ble_eq_true_of_le hk, Nat.ble_eq_true_of_le hb]
def srS (h : Heap) (k : Nat) (x : AV) : Option (List AV) := match x with
  | .v (.slice none 0 0) => some []
  | x => match elsOf h x with
    | some (k', l) => bif Nat.beq k k' then some l else none
    | none => none
theorem src_slice {t e e' : TypeId} {k : Nat} {x : AV} (hu : P.underlying t = some (.slice e')) : srcEls P Z h t e k x = srS h k x := by
  unfold srcEls
  rw [hu]
  cases x with
  | v y => cases y with
    | slice a i j => cases a with
      | some a => rfl
      | none => cases i with
        | succ i => rfl
        | zero => cases j <;> rfl
    | _ => rfl
  | _ => rfl
theorem src_str {t e : TypeId} {s : ByteArray} (hu : P.underlying t = some .string) : srcEls P Z h t e 1 (.v (.string s)) = some (ofBytes s.data.toList) := by
  unfold srcEls
  simp only [hu]
  rfl
theorem Zes {k : Nat} : srS h k (.v (.slice none 0 0)) = some [] := rfl
theorem Zet {k k' : Nat} {b : Bool} {l : List AV} : srS h k (.lit k' b l) = if k = k' then some l else none := by
  show (bif Nat.beq k k' then some l else none) = _
  rw [beqE]; split <;> simp_all
theorem srS_sl {k id gen off len : Nat} : srS h k (.sl id gen off len) = match elsOf h (.sl id gen off len) with
    | some (k', l) => bif Nat.beq k k' then some l else none
    | none => none := rfl
theorem Zeu {e : TypeId} {k : Nat} {xs : List AV} : appendTo h e k (.v (.slice none 0 0)) xs = bif xs.isEmpty then some (.v (.slice none 0 0), h, none, .quiet) else
      some (.sl h.length 0 0 xs.length, h ++ [.row k 0 xs ⟨false, e⟩], none, .st h.length) := rfl
theorem Zev {e : TypeId} {k k0 : Nat} {b : Bool} {l xs : List AV} : appendTo h e k0 (.lit k b l) xs = bif xs.isEmpty then some (.lit k b l, h, none, .quiet) else
      bif b && Nat.beq k k0 then some (.sl h.length 0 0 (l.length + xs.length), h ++ [.row k0 0 (l ++ xs) ⟨false, e⟩], none, .st h.length) else none := rfl
/-- Behind a whole row: a new one. -/
theorem app_new {e : TypeId} {k id gen len : Nat} {els xs : List AV} {ex : Tag} (hr : h[id]? = some (.row k gen els ex)) (ht : ex.ty = e) (hl : els.length = len) (hx : xs ≠ []) :
    appendTo h e k (.sl id gen 0 len) xs = some (.sl id (gen + 1) 0 (len + xs.length), h.set id (.row k (gen + 1) (els ++ xs) ⟨false, e⟩), some (id, !idfreeL xs), .w) := by
  have hp : 0 < xs.length := by cases xs with | nil => exact (hx rfl).elim | cons a l => simp
  have h1 : ¬ (0 + len + xs.length ≤ els.length) := by omega
  have h2 : 0 + len ≤ els.length := by omega
  subst ht
  have h3 : ¬ (len + xs.length ≤ len) := by omega
  simp [appendTo, hr, bleE, hl, List.take_of_length_le, h3]
theorem app_none {e : TypeId} {k id gen len : Nat} {els : List AV} {ex : Tag} (hr : h[id]? = some (.row k gen els ex)) (hl : len ≤ els.length) :
    appendTo h e k (.sl id gen 0 len) [] = some (.sl id gen 0 len, h.set id (.row k gen els ex), some (id, false), .w) := by
  simp [appendTo, hr, bleE, beqE, hl, setFrom, idfreeL]

theorem len_slice {t e : TypeId} {x : AV} (hu : P.underlying t = some (.slice e)) : lenE P h #[t] x = match sliceLen x with
    | some n => some (vInt n, h, none, .pure)
    | none => none := by
  unfold lenE
  rw [show (#[t] : Array TypeId)[0]? = some t from rfl]
  dsimp only
  rw [hu]
  cases x <;> rfl
theorem len_str {t : TypeId} {s : ByteArray} (hu : P.underlying t = some .string) : lenE P h #[t] (.v (.string s)) = some (vInt s.size, h, none, .pure) := by
  unfold lenE
  rw [show (#[t] : Array TypeId)[0]? = some t from rfl]
  dsimp only
  rw [hu]
theorem Zew {ts : Array TypeId} {x : AV} : builtinE E h .len ts ty [x] = lenE E.P h ts x := rfl
theorem Zex {ts : Array TypeId} {x : AV} : builtinE E h .cap ts ty [x] = capE E.P h ts x := rfl
theorem Zey {ts : Array TypeId} {s x : AV} : builtinE E h .append ts ty [s, x] = appendE E.P E.zeros h ts s x := rfl
theorem Zez {ts : Array TypeId} {s x : AV} : builtinE E h .copy ts ty [s, x] = cpO (copyE E.P h ts s x) (copyS E.P h ts s x) := rfl
theorem cpO_some {r : AV × Heap × Option (Nat × Bool) × Cl} {b : OpRes} : cpO (some r) b = some r := rfl
theorem Zfa {ts : Array TypeId} {x : AV} : builtinE E h .unsafeSliceData ts ty [x] = sliceDataE h x := rfl
theorem Zfb {ts : Array TypeId} {x n : AV} : builtinE E h .unsafeString ts ty [x, n] = unsafeStringE E.P h ts x n := rfl

theorem cv_int {s t : TypeId} {d : TypeDesc} {kd kd' : IntKind} {n : Int} (hs : P.underlying s = some (.int kd)) (ht : P.underlying t = some (.int kd')) : convE P h s t (.v (.int kd n)) = some (.v (.int kd' (kd'.wrap n)), h, none) := by
  have hp : prun P (convert s t (.int kd n)) = some (.int kd' (kd'.wrap n)) := by
    unfold convert
    simp only [prun_bind, prun_underlying hs, prun_underlying ht]
    rfl
  unfold convE
  simp only [hs, ht, toV, free, cond_true, hp]
  rfl
theorem cv_bytes {s t e : TypeId} {a : AV} (hs : P.underlying s = some (.slice e)) (ht : P.underlying t = some .string) (he : P.underlying e = some (.int .u8)) : convE P h s t a = match strOf h a with
      | some b => some (.v (.string b), h, none)
      | none => none := by
  unfold convE
  simp only [hs, ht, he]
theorem ptr_eq {t e : TypeId} {ox oy : Operand} {id gn i o : Nat} {p : List Nat} (hu : P.underlying t = some (.pointer e)) : binE P .eql t ox oy (.ptr id gn i p o) (.v (.pointer none)) = some (.v (.bool false)) := by
  unfold binE
  simp only [toV, hu, nilEq]
theorem ptr_ne {t e : TypeId} {ox oy : Operand} {id gn i o : Nat} {p : List Nat} (hu : P.underlying t = some (.pointer e)) : binE P .neq t ox oy (.ptr id gn i p o) (.v (.pointer none)) = some (.v (.bool true)) := by
  unfold binE
  simp only [toV, hu, nilEq]
  rfl
theorem ptr_self_ne {t e : TypeId} {n : Nat} {ox oy : Operand} {id gn i o : Nat} {p q : List Nat} (hu : P.underlying t = some (.pointer e)) (hs : szOf P e = some n) (hn : 1 ≤ n) : binE P .neq t ox oy (.ptr id gn i p o) (.ptr id gn i q o) = some (.v (.bool false)) := by
  unfold binE
  simp only [toV, hu, nilEq, ptrSame, hs]
  simp [Nat.ble_eq_true_of_le hn]

theorem Zfi {a : Nat} : ins a [] = [a] := rfl
theorem Zfj {a : Nat} {l : List Nat} : ins a (a :: l) = a :: l := by simp [ins]
theorem ins_mem {a i : Nat} {l : List Nat} (h : i ∈ ins a l) : i = a ∨ i ∈ l := by
  unfold ins at h
  cases he : l.elem a with
  | true => rw [he] at h; exact .inr h
  | false => rw [he] at h; exact List.mem_cons.1 h
theorem insLt_mem {n0 a i : Nat} {l : List Nat} (h : i ∈ insLt n0 a l) : i = a ∨ i ∈ l := by
  unfold insLt at h
  cases hb : Nat.blt a n0 with
  | true => rw [hb] at h; exact ins_mem h
  | false => rw [hb] at h; exact .inr h
theorem mergeLt_mem {n0 i : Nat} : ∀ {l r : List Nat}, i ∈ mergeLt n0 l r → i ∈ l ∨ i ∈ r
  | [], r, h => .inr h
  | a :: l, r, h => by
    rcases mergeLt_mem (l := l) h with h | h
    · exact .inl (List.mem_cons_of_mem _ h)
    · rcases insLt_mem h with rfl | h
      · exact .inl (List.mem_cons_self ..)
      · exact .inr h
theorem mergeLt_ge {n0 : Nat} : ∀ {l r : List Nat}, (∀ i ∈ l, n0 ≤ i) → mergeLt n0 l r = r
  | [], r, _ => rfl
  | a :: l, r, h => by
    show mergeLt n0 l (insLt n0 a r) = r
    have : insLt n0 a r = r := by
      unfold insLt
      rw [bltE, decide_eq_false (by have := h a (List.mem_cons_self ..); omega)]
      rfl
    rw [this]
    exact mergeLt_ge fun i hi => h i (List.mem_cons_of_mem _ hi)

theorem bin_shr {t : TypeId} {ox oy : Operand} {kd kd2 : IntKind} {x y : Int} (hy : 0 ≤ y) : binE P .shr t ox oy (.v (.int kd x)) (.v (.int kd2 y)) = some (.v (.int kd (x.fdiv (2 ^ (min y.toNat kd.bits))))) := by
  show pure1 (prun P (Op.shift .shr kd x kd2 y)) = _
  unfold Op.shift
  rw [if_neg (by omega)]
  rfl
theorem bin_shl {t : TypeId} {ox oy : Operand} {kd kd2 : IntKind} {x y : Int} (hy : 0 ≤ y) : binE P .shl t ox oy (.v (.int kd x)) (.v (.int kd2 y)) = some (.v (.int kd (kd.wrap (x * 2 ^ (min y.toNat kd.bits))))) := by
  show pure1 (prun P (Op.shift .shl kd x kd2 y)) = _
  unfold Op.shift
  rw [if_neg (by omega)]
  rfl
theorem bin_quo {t : TypeId} {ox oy : Operand} {kd : IntKind} {x y : Int} (hy : y ≠ 0) : binE P .quo t ox oy (.v (.int kd x)) (.v (.int kd y)) = some (.v (.int kd (kd.wrap (x.tdiv y)))) := by
  have h : prun P (Op.intDiv .quo kd x y) = some (.int kd (kd.wrap (x.tdiv y))) := by
    unfold Op.intDiv
    rw [if_neg hy]
    rfl
  cases kd <;> exact congrArg pure1 h
theorem bin_rem {t : TypeId} {ox oy : Operand} {kd : IntKind} {x y : Int} (hy : y ≠ 0) : binE P .rem t ox oy (.v (.int kd x)) (.v (.int kd y)) = some (.v (.int kd (x.tmod y))) := by
  have h : prun P (Op.intDiv .rem kd x y) = some (.int kd (x.tmod y)) := by
    unfold Op.intDiv
    rw [if_neg hy]
    rfl
  cases kd <;> exact congrArg pure1 h
theorem Zfm {t : TypeId} {ox oy : Operand} {kd : IntKind} {x y : Int} : binE P .or t ox oy (.v (.int kd x)) (.v (.int kd y)) = some (.v (.int kd (kd.wrap ((BitVec.ofInt kd.bits x ||| BitVec.ofInt kd.bits y).toNat)))) := by
  cases kd <;> rfl
theorem Zfn {t : TypeId} {ox oy : Operand} {kd : IntKind} {x y : Int} : binE P .and t ox oy (.v (.int kd x)) (.v (.int kd y)) = some (.v (.int kd (kd.wrap ((BitVec.ofInt kd.bits x &&& BitVec.ofInt kd.bits y).toNat)))) := by
  cases kd <;> rfl
theorem Zfo {t : TypeId} {ox oy : Operand} {kd : IntKind} {x y : Int} : binE P .xor t ox oy (.v (.int kd x)) (.v (.int kd y)) = some (.v (.int kd (kd.wrap ((BitVec.ofInt kd.bits x ^^^ BitVec.ofInt kd.bits y).toNat)))) := by
  cases kd <;> rfl

/-! ### Integers that need no wrapping -/
theorem wrap_i64 {n : Int} (h1 : -9223372036854775808 ≤ n) (h2 : n ≤ 9223372036854775807) : IntKind.i64.wrap n = n := by
  simp [IntKind.wrap, IntKind.signed, IntKind.bits]
  split <;> omega
theorem wrap_u64 {n : Int} (h1 : 0 ≤ n) (h2 : n ≤ 18446744073709551615) : IntKind.u64.wrap n = n := by
  simp [IntKind.wrap, IntKind.signed, IntKind.bits]
  omega
theorem wrap_u32 {n : Int} (h1 : 0 ≤ n) (h2 : n ≤ 4294967295) : IntKind.u32.wrap n = n := by
  simp [IntKind.wrap, IntKind.signed, IntKind.bits]
  omega
theorem wrap_u8 {n : Int} : IntKind.u8.wrap n = n % 256 := by
  simp [IntKind.wrap, IntKind.signed, IntKind.bits]
theorem or128 : ∀ k : Fin 256, IntKind.u8.wrap ((BitVec.ofInt 8 (k.val : Int) ||| BitVec.ofInt 8 128).toNat) = (k.val % 128 + 128 : Nat) := by decide +kernel
theorem or_128 {k : Nat} (h : k < 256) : IntKind.u8.wrap ((BitVec.ofInt IntKind.u8.bits (k : Int) ||| BitVec.ofInt IntKind.u8.bits 128).toNat) = ((k % 128 + 128 : Nat) : Int) := or128 ⟨k, h⟩
theorem shr_7 {n : Nat} : (n : Int).fdiv 128 = ((n / 128 : Nat) : Int) := by
  rw [Int.fdiv_eq_ediv_of_nonneg _ (by omega)]
  omega

theorem Zfe {k : Nat} {b : Bool} {l : List AV} : sliceLen (.lit k b l) = some l.length := rfl
theorem Zff {id g o n : Nat} : sliceLen (.sl id g o n) = some n := rfl
theorem Zfg {id g i o k off n m : Nat} {p : List Nat} : sliceLen (.isl id g i p o k off n m) = some n := rfl
theorem Zfh : sliceLen (.v (.slice none 0 0)) = some 0 := rfl

/-! ### Strings -/
def strB (l : List UInt8) : ByteArray := ⟨l.toArray⟩
theorem strB_toList (l : List UInt8) : (strB l).toList = l := by rw [ByteArray.toList_eq]; simp [strB]
theorem strB_data (l : List UInt8) : (strB l).data.toList = l := by simp [strB]
theorem strB_size (l : List UInt8) : (strB l).size = l.length := by simp [strB, ByteArray.size]
theorem strB_of (s : ByteArray) : s = strB s.data.toList := by simp [strB]
theorem ofBytes_len (l : List UInt8) : (ofBytes l).length = l.length := by simp [ofBytes]
theorem ofBytes_nil : ofBytes [] = [] := rfl
theorem ofBytes_cons (b : UInt8) (l : List UInt8) : ofBytes (b :: l) = .v (.int .u8 b.toNat) :: ofBytes l := rfl
theorem ofBytes_append (a b : List UInt8) : ofBytes (a ++ b) = ofBytes a ++ ofBytes b := by simp [ofBytes]
theorem Zfu : ∀ l : List UInt8, idfreeL (ofBytes l) = true
  | [] => rfl
  | b :: l => by rw [ofBytes_cons]; simp [idfreeL, idfree, Zfu l]
theorem strB_empty : strB [] = ByteArray.empty := rfl
theorem strB_append (a b : List UInt8) : strB a ++ strB b = strB (a ++ b) := by
  apply WideShapes.bytes_inj
  simp [strB]
theorem strB_extract (l : List UInt8) (p q : Nat) : (strB l).extract p q = strB ((l.drop p).take (q - p)) := by
  exact ByteArray.extract_mk l p q
theorem strB_get (l : List UInt8) (i : Nat) : (strB l)[i]? = l[i]? := by
  by_cases h : i < l.length
  · rw [getElem?_pos (strB l) i (by rw [strB_size]; exact h), List.getElem?_eq_getElem h]
    rfl
  · rw [getElem?_neg (strB l) i (by rw [strB_size]; exact h), List.getElem?_eq_none (by omega)]
theorem Zfc {t : TypeId} {ox oy : Operand} {a b : List UInt8} : binE P .eql t ox oy (.v (.string (strB a))) (.v (.string (strB b))) = some (.v (.bool (a == b))) := by
  show pure1 (some (.bool ((strB a).toList == (strB b).toList))) = _
  rw [strB_toList, strB_toList]; rfl
theorem Zfd {t : TypeId} {ox oy : Operand} {a b : List UInt8} : binE P .neq t ox oy (.v (.string (strB a))) (.v (.string (strB b))) = some (.v (.bool (!(a == b)))) := by
  show pure1 (some (.bool (!((strB a).toList == (strB b).toList)))) = _
  rw [strB_toList, strB_toList]; rfl
theorem str_add {t : TypeId} {ox oy : Operand} {a b : List UInt8} (h : a.length + b.length ≤ 9223372036854775807) : binE P .add t ox oy (.v (.string (strB a))) (.v (.string (strB b))) = some (.v (.string (strB (a ++ b)))) := by
  have hs : ¬ ((((strB a).size + (strB b).size : Nat) : Int) > IntKind.i64.max) := by
    rw [strB_size, strB_size]
    simp [IntKind.max, IntKind.signed, IntKind.bits]
    omega
  show pure1 (prun P (if (((strB a).size + (strB b).size : Nat) : Int) > IntKind.i64.max then _ else pure (.string (strB a ++ strB b)))) = _
  rw [if_neg hs, strB_append]
  rfl
theorem bytesL_of : ∀ l : List UInt8, bytesL (ofBytes l) = some l
  | [] => rfl
  | b :: l => by
    have := bytesL_of l
    simp only [ofBytes, List.map_cons] at this ⊢
    simp [bytesL, byteOf?, this]
theorem strOf_lit {b : Bool} {l : List UInt8} : strOf h (.lit 1 b (ofBytes l)) = some (strB l) := by
  simp [strOf, elsOf, bytesL_of, strB]
theorem strOf_nil : strOf h (.v (.slice none 0 0)) = some (strB []) := rfl
theorem strOf_sl {id gen : Nat} {l : List UInt8} {ex : Tag} (hr : h[id]? = some (.row 1 gen (ofBytes l) ex)) : strOf h (.sl id gen 0 l.length) = some (strB l) := by
  have : (ofBytes l).length = l.length := by simp [ofBytes]
  simp [strOf, elsOf, hr, bleE, this, List.take_of_length_le, bytesL_of, strB]
theorem bytesOK_of : ∀ l : List UInt8, bytesOK (ofBytes l) = true
  | [] => rfl
  | b :: l => by
    rw [ofBytes_cons]
    have := b.toNat_lt
    simp only [bytesOK, bytesOK_of l, Bool.and_true, Bool.and_eq_true, decide_eq_true_eq]
    omega
theorem Zfk : sliceDataE h (.v (.slice none 0 0)) = some (.v (.pointer none), h, none, .pure) := rfl
theorem data_sl {id gen k : Nat} {c : UInt8} {l : List UInt8} {ex : Tag} {n : Nat} (hr : h[id]? = some (.row k gen (ofBytes (c :: l)) ex)) : sliceDataE h (.sl id gen 0 n) = some (.ptr id gen 0 [] 0, h, none, .rd (some id)) := by
  simp [sliceDataE, hr, bltE, ofBytes_len]
theorem Zfl {pt u : TypeId} : unsafeStringE P h #[pt, u] (.v (.pointer none)) (.v (.int .i64 0)) = some (.v (.string (strB [])), h, none, .pure) := rfl
theorem ustr_row {pt u v : TypeId} {id gen : Nat} {c : UInt8} {l : List UInt8} {ex : Tag} (hr : h[id]? = some (.row 1 gen (ofBytes (c :: l)) ex)) (hp : P.underlying pt = some (.pointer u)) (hc : P.cellsOf u = 1) (hu : ex.ty = u) :
    unsafeStringE P h #[pt, v] (.ptr id gen 0 [] 0) (.v (.int .i64 ((l.length + 1 : Nat) : Int))) = some (.v (.string (strB (c :: l))), h.set id .dead, some (id, false), .w) := by
  have h0 : ¬ (((l.length + 1 : Nat) : Int) = 0) := by omega
  have ht : (ofBytes (c :: l)).take (l.length + 1) = ofBytes (c :: l) := List.take_of_length_le (by simp [ofBytes_len])
  have hb := bytesOK_of (c :: l)
  subst hu
  simp only [unsafeStringE, decide_eq_false h0, cond_false, hp, hr, Int.toNat_natCast, ht, bytesL_of, hb, hc]
  have h3 : (0 : Int) ≤ (l.length : Int) + 1 := by omega
  simp [bleE, ofBytes_len, strB]
  simp only [decide_eq_true h3, cond_true]
theorem idx_str {t : TypeId} {l : List UInt8} {kd : IntKind} {n : Int} {b : UInt8} (hu : P.underlying t = some .string) (h0 : 0 ≤ n) (hb : l[n.toNat]? = some b) : indexE P t (.v (.string (strB l))) (.v (.int kd n)) = some (.v (.int .u8 b.toNat)) := by
  have h1 : n.toNat < l.length := (List.getElem?_eq_some_iff.1 hb).1
  have h2 : n < (l.length : Int) := by omega
  unfold indexE
  simp only [hu, idx, strB_size, h0, h2, decide_true, Bool.true_and, cond_true, strB_get, hb]
end

theorem Zek {h : Heap} {id gen i o : Nat} {p : List Nat} : lookAt h (.ptr id gen i p o) = match h[id]? with
    | some (.row _ g els _) => bif Nat.beq g gen then
        match els[i]? with
        | some x => nav x p o
        | none => none
      else none
    | _ => none := rfl
theorem Zel {h : Heap} {x : AV} : lookAt h (.rop x) = some x := rfl

/-! ### Fields, one behind the other -/
mutual
theorem nav_append : ∀ (z : AV) (p : List Nat) (o : Nat) (x : AV) (q : List Nat) (d : Nat) (y : AV), nav z p o = some x → nav x q d = some y → nav z (p ++ q) (o + d) = some y
  | z, [], o, x, q, d, y, h1, h2 => by
    unfold nav at h1
    cases ho : Nat.beq o 0 with
    | false => rw [ho] at h1; cases h1
    | true =>
      have := Nat.eq_of_beq_eq_true ho
      subst this
      rw [ho] at h1
      injection h1 with h1
      subst h1
      simpa using h2
  | .agg l, f :: p, o, x, q, d, y, h1, h2 => by
    unfold nav at h1
    rw [List.cons_append]
    unfold nav
    exact navL_append l f p o x q d y h1 h2
  | .v _, _ :: _, _, _, _, _, _, h1, _ => by simp [nav] at h1
  | .tup _, _ :: _, _, _, _, _, _, h1, _ => by simp [nav] at h1
  | .lit .., _ :: _, _, _, _, _, _, h1, _ => by simp [nav] at h1
  | .sl .., _ :: _, _, _, _, _, _, h1, _ => by simp [nav] at h1
  | .isl .., _ :: _, _, _, _, _, _, h1, _ => by simp [nav] at h1
  | .ptr .., _ :: _, _, _, _, _, _, h1, _ => by simp [nav] at h1
  | .rop _, _ :: _, _, _, _, _, _, h1, _ => by simp [nav] at h1
  | .map _, _ :: _, _, _, _, _, _, h1, _ => by simp [nav] at h1
  | .fn .., _ :: _, _, _, _, _, _, h1, _ => by simp [nav] at h1
  | .any, _ :: _, _, _, _, _, _, h1, _ => by simp [nav] at h1
theorem navL_append : ∀ (l : List AV) (f : Nat) (p : List Nat) (o : Nat) (x : AV) (q : List Nat) (d : Nat) (y : AV), navL l f p o = some x → nav x q d = some y → navL l f (p ++ q) (o + d) = some y
  | [], f, p, o, x, q, d, y, h1, _ => by simp [navL] at h1
  | z :: l, 0, p, o, x, q, d, y, h1, h2 => by
    unfold navL at h1 ⊢
    exact nav_append z p o x q d y h1 h2
  | z :: l, f + 1, p, o, x, q, d, y, h1, h2 => by
    unfold navL at h1 ⊢
    rw [bleE] at h1 ⊢
    by_cases ho : AM.leafs z ≤ o
    · rw [decide_eq_true ho] at h1
      rw [decide_eq_true (by omega)]
      simp only [cond_true] at h1 ⊢
      have := navL_append l f p (o - AM.leafs z) x q d y h1 h2
      rw [show o + d - AM.leafs z = o - AM.leafs z + d by omega]
      exact this
    · rw [decide_eq_false ho] at h1
      cases h1
end
/-- A field's place, of something that is looked at. -/
theorem faddr_look {P : Program} {h : Heap} {a z y : AV} {l : List AV} {t : TypeId} {f off n : Nat} (ha : lookAt h a = some z) (hz : z = .agg l) (hf : fieldOf P t f = some (off, n)) (hn : n ≠ 0) (hy : nav z [f] off = some y) : ∃ b, fieldAddrE P t a f = some b ∧ lookAt h b = some y := by
  have hb : Nat.beq n 0 = false := by rw [beqE]; exact decide_eq_false hn
  unfold fieldAddrE
  simp only [hf, hb, cond_false]
  cases a with
  | ptr id gen i p o =>
    refine ⟨_, rfl, ?_⟩
    rw [Zek] at ha ⊢
    cases hr : h[id]? with
    | none => rw [hr] at ha; cases ha
    | some r => cases r with
      | row k g els ex =>
        rw [hr] at ha
        simp only at ha ⊢
        cases hg : Nat.beq g gen with
        | false => rw [hg] at ha; cases ha
        | true =>
          rw [hg] at ha
          simp only [cond_true] at ha ⊢
          cases he : els[i]? with
          | none => rw [he] at ha; cases ha
          | some x =>
            rw [he] at ha
            simp only at ha ⊢
            exact nav_append x p o z [f] off y ha hy
      | map _ _ => rw [hr] at ha; cases ha
      | dead => rw [hr] at ha; cases ha
  | rop x =>
    rw [Zel] at ha
    injection ha with ha
    subst ha; subst hz
    unfold nav at hy
    simp only [hy]
    exact ⟨_, rfl, rfl⟩
  | _ => simp [lookAt] at ha

/-! ### Arrays of bytes -/
theorem navL_bytes : ∀ {l : List UInt8} {j : Nat} {b : UInt8}, l[j]? = some b → navL (ofBytes l) j [] j = some (.v (.int .u8 b.toNat))
  | [], j, b, h => by simp at h
  | c :: l, 0, b, h => by
    simp only [List.getElem?_cons_zero, Option.some.injEq] at h
    subst h
    simp [ofBytes_cons, navL, nav]
  | c :: l, j + 1, b, h => by
    rw [List.getElem?_cons_succ] at h
    have := navL_bytes h
    simp [ofBytes_cons, navL, leafs, this, bleE]
theorem putL_bytes : ∀ {l : List UInt8} {j : Nat} {b : UInt8}, j < l.length → putL (ofBytes l) j [] j (.v (.int .u8 b.toNat)) = some (ofBytes (l.set j b))
  | [], j, b, h => by simp at h
  | c :: l, 0, b, h => by simp [ofBytes_cons, putL, put, leafs]
  | c :: l, j + 1, b, h => by
    have := putL_bytes (l := l) (j := j) (b := b) (by simpa using h)
    simp [ofBytes_cons, putL, leafs, this, bleE]
theorem frzL_bytes {n0 : Nat} {h : Heap} : ∀ l : List UInt8, frzL n0 h (ofBytes l) = some (ofBytes l)
  | [] => rfl
  | b :: l => by rw [ofBytes_cons]; simp [frzL, frz, frzL_bytes l]
theorem Zfv {x : Value} : leafs (.v x) = 1 := rfl
theorem Zfw {l : List AV} : leafs (.agg l) = leafsL l := rfl
theorem Zfx {id g i o : Nat} {p : List Nat} : leafs (.ptr id g i p o) = 1 := rfl
theorem Zfy {id g i o : Nat} : leafs (.sl id g i o) = 1 := rfl
theorem Zfz {k : Nat} {b : Bool} {l : List AV} : leafs (.lit k b l) = 1 := rfl
theorem Zga {x : AV} : leafs (.rop x) = 1 := rfl
theorem Zgb {i : Nat} : leafs (.map i) = 1 := rfl
theorem Zgc {f : Fn} {p q : List AV} : leafs (.fn f p q) = 1 := rfl
theorem Zgd {x : Value} : isAggA (.v x) = false := rfl
theorem Zge {l : List AV} : isAggA (.agg l) = true := rfl
theorem Zgf {id g i o : Nat} {p : List Nat} : isAggA (.ptr id g i p o) = false := rfl
theorem Zgg {id g i o : Nat} : isAggA (.sl id g i o) = false := rfl
theorem Zgh {k : Nat} {b : Bool} {l : List AV} : isAggA (.lit k b l) = false := rfl
theorem Zgi {x : Value} : isTupA (.v x) = false := rfl
theorem Zgj {l : List AV} : isTupA (.agg l) = false := rfl
theorem Zgk {id g i o : Nat} {p : List Nat} : isTupA (.ptr id g i p o) = false := rfl
theorem Zgl {id g i o : Nat} : isTupA (.sl id g i o) = false := rfl
theorem Zgm {k : Nat} {b : Bool} {l : List AV} : isTupA (.lit k b l) = false := rfl
theorem Zfs {a k : Nat} : (a + k < a) = False := eq_false (by omega)
theorem Zft {a : Nat} : (a < a) = False := eq_false (by omega)
theorem leafs_ofBytes (l : List UInt8) : leafsL (ofBytes l) = l.length := by
  rw [allK_leafs (allK_bytes l)]; simp [ofBytes]
theorem ia_arr {P : Program} {h : Heap} {t e n id g i o j : Nat} {p : List Nat} (hu : P.underlying t = some (.array n e)) (hs : szOf P e = some 1) (hj : j < n) : indexAddrE P h t (.ptr id g i p o) (.v (.int .i64 (j : Nat))) = some (.ptr id g i (p ++ [j]) (o + j)) := by
  have h1 : (0 : Int) ≤ j := by omega
  have h2 : (j : Int) < n := by omega
  simp [indexAddrE, hu, hs, idx, h1, h2]
theorem ia_lit {P : Program} {h : Heap} {t e k j : Nat} {b : Bool} {l : List AV} {y : AV} {kd : IntKind} (hu : P.underlying t = some (.slice e)) (hs : szOf P e = some k) (hy : l[j]? = some y) : indexAddrE P h t (.lit k b l) (.v (.int kd (j : Nat))) = some (.rop y) := by
  have h2 : (j : Int) < l.length := by have := (List.getElem?_eq_some_iff.1 hy).1; omega
  simp only [indexAddrE, hu, hs, idx, h2, decide_true, Int.natCast_nonneg, Bool.true_and, cond_true, Int.toNat_natCast, hy, Nat.beq_refl]
theorem ia_sl {P : Program} {h : Heap} {t e k j id g len : Nat} {els : List AV} {ex : Tag} {kd : IntKind} (hu : P.underlying t = some (.slice e)) (hs : szOf P e = some k) (hr : h[id]? = some (.row k g els ex)) (hj : j < len) : indexAddrE P h t (.sl id g 0 len) (.v (.int kd (j : Nat))) = some (.ptr id g j [] 0) := by
  have h2 : (j : Int) < len := by omega
  simp [indexAddrE, hu, hs, idx, h2, hr]
theorem wrapN {n : Nat} (h : n ≤ 9223372036854775807) : IntKind.i64.wrap (n : Int) = n := wrap_i64 (by omega) (by omega)
theorem wrapN1 {n : Nat} (h : n < 9223372036854775807) : IntKind.i64.wrap ((n : Int) + 1) = ((n + 1 : Nat) : Int) := by
  rw [wrap_i64 (by omega) (by omega)]; omega
theorem Zdy {E : Env} {st : St} {a : Tmp} {t : TypeId} {rs : List ResultVar} : resultsE E.P st (.cell a t :: rs) = match ap1 (loadE E.P st.h t) (AM.get st.fr a), resultsE E.P st rs with
    | some y, some ys => some (y :: ys)
    | _, _ => none := by
  show (match resultE E.P st (.cell a t), resultsE E.P st rs with | some y, some ys => some (y :: ys) | _, _ => none) = _
  unfold resultE ap1
  rfl
theorem Zdw {n0 : Nat} {l : List Nat} : mergeLt n0 [n0] l = l := mergeLt_ge (by simp)
theorem Zdx {n0 k : Nat} {l : List Nat} : mergeLt n0 [n0 + k] l = l := mergeLt_ge (by simp)

theorem strOf_one {h : Heap} {b : Bool} {n : Int} : strOf h (.lit 1 b [.v (.int .u8 n)]) = some (strB [UInt8.ofNat n.toNat]) := rfl
theorem strOf_isl {h : Heap} {id g i o k len n : Nat} {p : List Nat} {els : List AV} {z : AV} {l : List UInt8} {ex : Tag} (hr : h[id]? = some (.row k g els ex)) (hz : els[i]? = some z) (hn : nav z p o = some (.agg (ofBytes l))) (hl : l.length = n) (hb : len ≤ n) :
    strOf h (.isl id g i p o 1 0 len n) = some (strB (l.take len)) := by
  have h1 : (ofBytes l).length = n := by rw [ofBytes_len, hl]
  have h2 : (ofBytes l).take len = ofBytes (l.take len) := by simp [ofBytes, List.map_take]
  simp [strOf, elsOf, hr, hz, hn, h1, allK_bytes, bleE, hb, h2, bytesL_of, strB]
theorem sl_arr {P : Program} {h : Heap} {t e id g i o n : Nat} {p : List Nat} {kd : IntKind} {q : Int} (hu : P.underlying t = some (.array n e)) (hs : szOf P e = some 1) (h0 : 0 ≤ q) (hq : q ≤ n) :
    sliceE P h t (.ptr id g i p o) none (some (.v (.int kd q))) none = some (.isl id g i p o 1 0 q.toNat n) := by
  have h1 : (0 : Int) ≤ q := h0
  simp [sliceE, hu, hs, bound, h1, hq]
theorem sl_hi {P : Program} {h : Heap} {t : TypeId} {l : List UInt8} {kd : IntKind} {q : Int} (hu : P.underlying t = some .string) (h0 : 0 ≤ q) (h1 : q ≤ l.length) : sliceE P h t (.v (.string (strB l))) none (some (.v (.int kd q))) none = some (.v (.string (strB (l.take q.toNat)))) := by
  have e : (strB l).extract 0 q.toNat = strB (l.take q.toNat) := by rw [strB_extract]; simp
  simp [sliceE, hu, bound, strB_size, h0, h1, e]
theorem sl_lo {P : Program} {h : Heap} {t : TypeId} {l : List UInt8} {kd : IntKind} {q : Int} (hu : P.underlying t = some .string) (h0 : 0 ≤ q) (h1 : q ≤ l.length) : sliceE P h t (.v (.string (strB l))) (some (.v (.int kd q))) none none = some (.v (.string (strB (l.drop q.toNat)))) := by
  have e : (strB l).extract q.toNat l.length = strB (l.drop q.toNat) := by rw [strB_extract, List.take_of_length_le (by simp)]
  simp [sliceE, hu, bound, strB_size, h0, h1, e]
theorem sl_all {P : Program} {h : Heap} {t e id g i o n : Nat} {p : List Nat} (hu : P.underlying t = some (.array n e)) (hs : szOf P e = some 1) : sliceE P h t (.ptr id g i p o) none none none = some (.isl id g i p o 1 0 n n) := by
  simp [sliceE, hu, hs, bound]
theorem end0s {h l : Heap} {i : Nat} {r : Row} : (h.set i r ++ l)[h.length]? = l[0]? := by rw [List.getElem?_append_right (by simp)]; simp
theorem end1s {h l : Heap} {i k : Nat} {r : Row} : (h.set i r ++ l)[h.length + k]? = l[k]? := by rw [List.getElem?_append_right (by simp)]; simp
theorem endS0s {h l : Heap} {i : Nat} {r r' : Row} : (h.set i r ++ l).set h.length r' = h.set i r ++ l.set 0 r' := by rw [List.set_append_right _ _ (by simp)]; simp
theorem endS1s {h l : Heap} {i k : Nat} {r r' : Row} : (h.set i r ++ l).set (h.length + k) r' = h.set i r ++ l.set k r' := by rw [List.set_append_right _ _ (by simp)]; simp
theorem setFrom_bytes : ∀ (s l : List UInt8), s.length ≤ l.length → setFrom (ofBytes l) 0 (ofBytes s) = ofBytes (s ++ l.drop s.length) := by
  have key : ∀ (s l pre : List UInt8), s.length ≤ l.length → setFrom (ofBytes (pre ++ l)) pre.length (ofBytes s) = ofBytes (pre ++ (s ++ l.drop s.length)) := by
    intro s
    induction s with
    | nil => intro l pre _; rfl
    | cons b s ih =>
      intro l pre hl
      cases l with
      | nil => simp at hl
      | cons c l =>
        rw [ofBytes_cons]
        unfold setFrom
        have h1 : (ofBytes (pre ++ c :: l)).set pre.length (.v (.int .u8 b.toNat)) = ofBytes ((pre ++ [b]) ++ l) := by
          simp [ofBytes]
        rw [h1]
        have := ih l (pre ++ [b]) (by simpa using hl)
        simp only [List.length_append, List.length_singleton] at this
        rw [this]
        simp
  intro s l h
  have := key s l [] h
  simpa using this
theorem cp_none {P : Program} {h : Heap} {d x e id g i o k : Nat} {p : List Nat} (hd : P.underlying d = some (.slice e)) (hs : szOf P e = some 1) (hx : P.underlying x = some .string) : copyE P h #[d, x] (.isl id g i p o 1 0 k k) (.v (.string (strB []))) = some (vInt 0, h, none, .quiet) := by
  simp [copyE, hd, hs, srcEls, hx, sliceLen, strB, ofBytes]
theorem cp_str {P : Program} {h : Heap} {d x e id g i o k kr : Nat} {p : List Nat} {els : List AV} {ex : Tag} {z z' : AV} {l s : List UInt8} (hd : P.underlying d = some (.slice e)) (hs : szOf P e = some 1) (hx : P.underlying x = some .string)
    (hr : h[id]? = some (.row kr g els ex)) (he : els[i]? = some z) (hn : nav z p o = some (.agg (ofBytes l))) (hl : l.length = k) (h0 : s ≠ []) (hk : s.length ≤ k) (hp : put z p o (.agg (ofBytes (s ++ l.drop s.length))) = some z') :
    copyE P h #[d, x] (.isl id g i p o 1 0 k k) (.v (.string (strB s))) = some (vInt s.length, h.set id (.row kr g (els.set i z') ex), some (id, false), .w) := by
  have h1 : min (ofBytes s).length k = s.length := by rw [ofBytes_len]; omega
  have h2 : (ofBytes s).take s.length = ofBytes s := List.take_of_length_le (by rw [ofBytes_len]; omega)
  have h3 : Nat.beq s.length 0 = false := by rw [beqE]; exact decide_eq_false (by cases s with | nil => exact (h0 rfl).elim | cons a l => simp)
  have h4 := setFrom_bytes s l (by omega)
  have h5 : (ofBytes l).length = k := by rw [ofBytes_len, hl]
  have hsrc : srcEls P [] h x e 1 (.v (.string (strB s))) = some (ofBytes s) := by rw [src_str hx, strB_data]
  unfold copyE
  rw [show (#[d, x] : Array TypeId)[0]? = some d from rfl, show (#[d, x] : Array TypeId)[1]? = some x from rfl]
  simp only [hd, hs, hsrc, Zfg, h1, h2, h3, cond_false, hr, he, hn, h5, allK_bytes, h4, hp, Zfu]
  simp [bleE]
theorem Zgn {h0 h : Heap} {r : AV} {ds : List Nat} : fzO h0 r h ds none = (r, h, ⟨ds, [], false⟩) := rfl
theorem clsOf_eq {E : Env} {f : FuncId} {o : Oper} {fr : FR} : clsOf E f o fr = clsOf E f o fr := rfl

/-! ### Loops -/
theorem get_keepF : ∀ {l : List Nat} {fr : FR} {t : Nat}, t ∈ l → AM.get (keepF l fr) t = AM.get fr t
  | [], _, _, h => by cases h
  | s :: l, fr, t, h => by
    simp only [keepF]
    by_cases hs : s = t
    · subst hs
      cases hg : AM.get fr s with
      | none =>
        simp only
        by_cases hm : s ∈ l
        · rw [get_keepF hm, hg]
        · have : ∀ {l : List Nat}, s ∉ l → AM.get (keepF l fr) s = none := by
            intro l
            induction l with
            | nil => intro _; rfl
            | cons a l ih =>
              intro hn
              simp only [List.mem_cons, not_or] at hn
              simp only [keepF]
              cases AM.get fr a with
              | none => exact ih hn.2
              | some y =>
                show AM.get ((a, y) :: keepF l fr) s = none
                rw [Zbp, if_neg (Ne.symm hn.1)]
                exact ih hn.2
          exact this hm
      | some y => simp only; rw [Zbp, if_pos rfl]
    · have hm : t ∈ l := by
        rcases List.mem_cons.1 h with h | h
        · exact (hs h.symm).elim
        · exact h
      cases hg : AM.get fr s with
      | none => exact get_keepF hm
      | some y => simp only; rw [Zbp, if_neg hs]; exact get_keepF hm
theorem keepF_keepF {l : List Nat} {fr : FR} : ∀ {r : List Nat}, (∀ t ∈ r, t ∈ l) → keepF r (keepF l fr) = keepF r fr
  | [], _ => rfl
  | t :: r, h => by
    simp only [keepF]
    rw [get_keepF (h t (List.mem_cons_self ..)), keepF_keepF fun s hs => h s (List.mem_cons_of_mem _ hs)]
theorem loopN_mask {body : St → Option (Ex × St)} {l : List Nat} {n : Nat} {fr : FR} {h : Heap} {ds ls : List Nat} : loopN body l n ⟨fr, h, ds, ls⟩ = loopN body l n ⟨keepF l fr, h, ds, ls⟩ := by
  cases n with
  | zero => rfl
  | succ n =>
    show (match body ⟨keepF l fr, h, ds, ls⟩ with | some (.normal, st') => loopN body l n st' | r => r) = (match body ⟨keepF l (keepF l fr), h, ds, ls⟩ with | some (.normal, st') => loopN body l n st' | r => r)
    rw [keepF_keepF fun _ h => h]
theorem Zfp {E : Env} {K : CallK} {nl f nt n0 : Nat} {k : List Fr} {b : Code} {fr : FR} {h : Heap} {ds ls : List Nat} : at_ E K nl f nt n0 k (.loop b) fr h ds ls = lp E K nl f nt n0 k (loopN (exec E K nl f nt n0 b) (E.masks f) nl ⟨keepF (E.masks f) fr, h, ds, ls⟩) := by
  rw [at_loop, loopN_mask]
theorem Zfq {t : Nat} {ts : List Nat} {fr : FR} : keepF (t :: ts) fr = match AM.get fr t with
    | some y => (t, y) :: keepF ts fr
    | none => keepF ts fr := rfl
theorem Zfr {fr : FR} : keepF [] fr = [] := rfl
/-- The bodies of a function's loops, from the outside in. -/
def loopsIn : Code → List Code
  | .seq a b => loopsIn a ++ loopsIn b
  | .cond _ a b => loopsIn a ++ loopsIn b
  | .block _ b => loopsIn b
  | .loop b => b :: loopsIn b
  | .scope b => loopsIn b
  | _ => []
def loopB (fn : Func) (i : Nat) : Code := match fn.body with
  | some c => (loopsIn c).getD i .skip
  | none => .skip
theorem loopN_step {body : St → Option (Ex × St)} {l : List Nat} {n : Nat} {fr : FR} {h : Heap} {ds ls : List Nat} {fr' : FR} {h' : Heap} {ds' ls' : List Nat} (hb : body ⟨keepF l fr, h, ds, ls⟩ = some (.normal, ⟨fr', h', ds', ls'⟩)) :
    loopN body l (n + 1) ⟨fr, h, ds, ls⟩ = loopN body l n ⟨fr', h', ds', ls'⟩ := by
  show (match body ⟨keepF l fr, h, ds, ls⟩ with | some (.normal, st') => loopN body l n st' | r => r) = _
  rw [hb]
theorem loopN_out {body : St → Option (Ex × St)} {l : List Nat} {n i : Nat} {fr : FR} {h : Heap} {ds ls : List Nat} {st : St} (hb : body ⟨keepF l fr, h, ds, ls⟩ = some (.exit i, st)) :
    loopN body l (n + 1) ⟨fr, h, ds, ls⟩ = some (.exit i, st) := by
  show (match body ⟨keepF l fr, h, ds, ls⟩ with | some (.normal, st') => loopN body l n st' | r => r) = _
  rw [hb]
theorem loopN_ret {body : St → Option (Ex × St)} {l : List Nat} {n : Nat} {fr : FR} {h : Heap} {ds ls : List Nat} {st : St} (hb : body ⟨keepF l fr, h, ds, ls⟩ = some (.ret, st)) :
    loopN body l (n + 1) ⟨fr, h, ds, ls⟩ = some (.ret, st) := by
  show (match body ⟨keepF l fr, h, ds, ls⟩ with | some (.normal, st') => loopN body l n st' | r => r) = _
  rw [hb]
theorem exec_code {E : Env} {K : CallK} {nl f nt n0 : Nat} {c : Code} {fr : FR} {h : Heap} {ds ls : List Nat} : exec E K nl f nt n0 c ⟨fr, h, ds, ls⟩ = at_ E K nl f nt n0 [] c fr h ds ls := exec_at

/-- All rules by which a walk is made short. -/
def simB := And.intro (And.intro (And.intro (And.intro (And.intro (And.intro (And.intro (@Zaa) (And.intro (@Zab) (@Zac))) (And.intro (@Zad) (And.intro (@Zae) (@Zaf)))) (And.intro (And.intro (@Zag) (And.intro (@Zah) (@Zai))) (And.intro (And.intro (@Zaj) (@Zak)) (And.intro (@Zal) (@Zam))))) (And.intro (And.intro (And.intro (@Zan) (And.intro (@Zao) (@Zap))) (And.intro (And.intro (@Zaq) (@Zar)) (And.intro (@Zas) (@Zat)))) (And.intro (And.intro (@Zau) (And.intro (@Zav) (@Zaw))) (And.intro (And.intro (@Zax) (@Zay)) (And.intro (@Zaz) (@Zba)))))) (And.intro (And.intro (And.intro (And.intro (@Zbb) (And.intro (@Zbc) (@Zbd))) (And.intro (@Zbe) (And.intro (@Zbf) (@Zbg)))) (And.intro (And.intro (@Zbh) (And.intro (@Zbi) (@Zbj))) (And.intro (And.intro (@Zbk) (@Zbl)) (And.intro (@Zbm) (@Zbn))))) (And.intro (And.intro (And.intro (@Zbo) (And.intro (@Zbp) (@Zbq))) (And.intro (And.intro (@Zbr) (@Zbs)) (And.intro (@Zbt) (@Zbu)))) (And.intro (And.intro (@Zbv) (And.intro (@Zbw) (@Zbx))) (And.intro (And.intro (@Zby) (@Zbz)) (And.intro (@Zca) (@Zcb))))))) (And.intro (And.intro (And.intro (And.intro (And.intro (@Zcc) (And.intro (@Zcd) (@Zce))) (And.intro (@Zcf) (And.intro (@Zcg) (@Zch)))) (And.intro (And.intro (@Zci) (And.intro (@Zcj) (@Zck))) (And.intro (And.intro (@Zcl) (@Zcm)) (And.intro (@Zcn) (@Zco))))) (And.intro (And.intro (And.intro (@Zcp) (And.intro (@Zcq) (@Zcr))) (And.intro (And.intro (@Zcs) (@Zct)) (And.intro (@Zcu) (@Zcv)))) (And.intro (And.intro (@Zcw) (And.intro (@Zcx) (@Zcy))) (And.intro (And.intro (@Zcz) (@Zda)) (And.intro (@Zdb) (@Zdc)))))) (And.intro (And.intro (And.intro (And.intro (@Zdd) (And.intro (@Zde) (@Zdf))) (And.intro (And.intro (@Zdg) (@opN_some)) (And.intro (@Zdh) (@Zdi)))) (And.intro (And.intro (@Zdj) (And.intro (@Zdk) (@Zdl))) (And.intro (And.intro (@Zdm) (@Zdn)) (And.intro (@Zdo) (@Zdp))))) (And.intro (And.intro (And.intro (@Zdq) (And.intro (@Zdr) (@Zds))) (And.intro (And.intro (@Zdt) (@Zdu)) (And.intro (@Zdv) (@Zdw)))) (And.intro (And.intro (@Zdx) (And.intro (@Zdy) (@Zdz))) (And.intro (And.intro (@Zea) (@Zeb)) (And.intro (@Zec) (@Zed)))))))) (And.intro (And.intro (And.intro (And.intro (And.intro (And.intro (@Zee) (And.intro (@Zef) (@Zeg))) (And.intro (@Zeh) (And.intro (@Zei) (@Zej)))) (And.intro (And.intro (@end0) (And.intro (@end1) (@endS0))) (And.intro (And.intro (@endS1) (@cond_true.{1})) (And.intro (@cond_false.{1}) (@ite_true.{1}))))) (And.intro (And.intro (And.intro (@ite_false.{1}) (And.intro (@bleE) (@bltE))) (And.intro (And.intro (@beqE) (@decide_true)) (And.intro (@decide_false) (@Bool.not_false)))) (And.intro (And.intro (@Bool.not_true) (And.intro (@Bool.and_true) (@Bool.true_and))) (And.intro (And.intro (@Bool.and_false) (@Bool.false_and)) (And.intro (@Zek) (@Zel)))))) (And.intro (And.intro (And.intro (And.intro (@List.nil_append.{0}) (And.intro (@List.cons_append.{0}) (@List.append_assoc.{0}))) (And.intro (@List.getElem?_cons_zero.{0}) (And.intro (@List.getElem?_cons_succ.{0}) (@List.length_cons.{0})))) (And.intro (And.intro (@List.length_nil.{0}) (And.intro (@beq_self_eq_true.{0}) (@Bool.true_beq))) (And.intro (And.intro (@Bool.false_beq) (@Zem)) (And.intro (@Zen) (@Zeo))))) (And.intro (And.intro (And.intro (@Zep) (And.intro (@Zeq) (@List.getElem?_toArray.{0}))) (And.intro (And.intro (@Option.bind_some.{0, 0}) (@Int.cast_ofNat_Int)) (And.intro (@Zer) (@Zes)))) (And.intro (And.intro (@Zet) (And.intro (@Zeu) (@Zev))) (And.intro (And.intro (@Zew) (@Zex)) (And.intro (@Zey) (@Zez))))))) (And.intro (And.intro (And.intro (And.intro (And.intro (@cpO_some) (And.intro (@Zfa) (@Zfb))) (And.intro (@Zfc) (And.intro (@Zfd) (@List.isEmpty_nil.{0})))) (And.intro (And.intro (@List.isEmpty_cons.{0}) (And.intro (@Zfe) (@Zff))) (And.intro (And.intro (@Zfg) (@Zfh)) (And.intro (@Option.getD_some.{0}) (@Option.getD_none.{0}))))) (And.intro (And.intro (And.intro (@List.set_cons_zero.{0}) (And.intro (@List.set_cons_succ.{0}) (@List.length_append.{0}))) (And.intro (And.intro (@List.length_set.{0}) (@Zfi)) (And.intro (@Zfj) (@Zfk)))) (And.intro (And.intro (@Zfl) (And.intro (@Zfm) (@Zfn))) (And.intro (And.intro (@Zfo) (@Zfp)) (And.intro (@Zfq) (@Zfr)))))) (And.intro (And.intro (And.intro (And.intro (@List.getD_cons_zero.{0}) (And.intro (@List.getD_cons_succ.{0}) (@Zfs))) (And.intro (And.intro (@Zft) (@Zfu)) (And.intro (@Zfv) (@Zfw)))) (And.intro (And.intro (@Zfx) (And.intro (@Zfy) (@Zfz))) (And.intro (And.intro (@Zga) (@Zgb)) (And.intro (@Zgc) (@Zgd))))) (And.intro (And.intro (And.intro (@Zge) (And.intro (@Zgf) (@Zgg))) (And.intro (And.intro (@Zgh) (@Zgi)) (And.intro (@Zgj) (@Zgk)))) (And.intro (And.intro (@Zgl) (And.intro (@Zgm) (@end0s))) (And.intro (And.intro (@end1s) (@endS0s)) (And.intro (@endS1s) (@Zgn))))))))
def simF := And.intro simB (And.intro (And.intro (And.intro (And.intro (And.intro (@exL.eq_1) (And.intro (@exL.eq_2) (@nlC.eq_1))) (And.intro (And.intro (@nlC.eq_2) (@nlC.eq_3)) (And.intro (@nlC.eq_4) (@newCl.eq_1)))) (And.intro (And.intro (And.intro (@newCl.eq_2) (@args0.eq_1)) (And.intro (@args0.eq_2) (@oneOrTup.eq_1))) (And.intro (And.intro (@oneOrTup.eq_2) (@leafsL.eq_1)) (And.intro (@leafsL.eq_2) (@idfree.eq_1))))) (And.intro (And.intro (And.intro (@idfree.eq_2) (And.intro (@idfree.eq_3) (@idfree.eq_4))) (And.intro (And.intro (@idfree.eq_5) (@idfree.eq_6)) (And.intro (@idfree.eq_7) (@idfree.eq_8)))) (And.intro (And.intro (And.intro (@idfreeL.eq_1) (@idfreeL.eq_2)) (And.intro (@loadE.eq_1) (@nav.eq_1))) (And.intro (And.intro (@nav.eq_2) (@nav.eq_3)) (And.intro (@navL.eq_1) (@navL.eq_2)))))) (And.intro (And.intro (And.intro (And.intro (@navL.eq_3) (And.intro (@frz.eq_1) (@frz.eq_2))) (And.intro (And.intro (@frz.eq_3) (@frz.eq_4)) (And.intro (@frz.eq_5) (@frz.eq_6)))) (And.intro (And.intro (And.intro (@frz.eq_7) (@frz.eq_8)) (And.intro (@frz.eq_9) (@frz.eq_10))) (And.intro (And.intro (@frz.eq_11) (@frzL.eq_1)) (And.intro (@frzL.eq_2) (@vInt.eq_1))))) (And.intro (And.intro (And.intro (And.intro (@put.eq_1) (@put.eq_2)) (And.intro (@put.eq_3) (@putL.eq_1))) (And.intro (And.intro (@putL.eq_2) (@putL.eq_3)) (And.intro (@setParts.eq_1) (@setParts.eq_2)))) (And.intro (And.intro (And.intro (@loopB.eq_1) (@loopsIn.eq_1)) (And.intro (@loopsIn.eq_2) (@loopsIn.eq_3))) (And.intro (And.intro (@loopsIn.eq_4) (@loopsIn.eq_5)) (And.intro (@loopsIn.eq_6) (@partE.eq_def)))))))
def simA := And.intro simF (@fieldAddrE.eq_1)

end Go.AM
