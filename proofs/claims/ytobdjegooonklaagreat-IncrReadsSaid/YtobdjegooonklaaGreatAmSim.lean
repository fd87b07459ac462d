/- The abstract machine as rules for rewriting. Conditions: none. -/
import Derived.Test.YtobdjegooonklaaGreatAmCall
set_option linter.unusedVariables false
namespace Go.AM
open Go

/-- What waits behind a piece of code. -/
inductive Fr where
  | seq (c : Code)
  | block (id : Nat)

theorem bleE (a b : Nat) : Nat.ble a b = decide (a ≤ b) := by
  by_cases hd : a ≤ b
  · rw [decide_eq_true hd]; exact Nat.ble_eq_true_of_le hd
  · rw [decide_eq_false hd]
    cases hb : Nat.ble a b with
    | true => exact (hd (Nat.le_of_ble_eq_true hb)).elim
    | false => rfl
theorem beqE (a b : Nat) : Nat.beq a b = decide (a = b) := by
  by_cases hd : a = b
  · subst hd; simp
  · rw [decide_eq_false hd]
    cases hb : Nat.beq a b with
    | true => exact (hd (Nat.eq_of_beq_eq_true hb)).elim
    | false => rfl
theorem bltE (a b : Nat) : Nat.blt a b = decide (a < b) := by
  by_cases hd : a < b
  · rw [decide_eq_true hd]; exact Nat.ble_eq_true_of_le hd
  · rw [decide_eq_false hd]
    cases hb : Nat.blt a b with
    | true => exact (hd (Nat.le_of_ble_eq_true hb)).elim
    | false => rfl

section
variable (E : Env) (K : CallK) (nl : Nat) (f : FuncId) (nt n0 : Nat)

def cont : List Fr → Ex → St → Option (Ex × St)
  | [], ex, st => some (ex, st)
  | .seq c :: k, ex, st => match ex with
    | .normal => match exec E K nl f nt n0 c st with
      | some (ex', st') => cont k ex' st'
      | none => none
    | ex => cont k ex st
  | .block id :: k, ex, st => match ex with
    | .exit i => bif Nat.beq i id then cont k .normal st else cont k (.exit i) st
    | ex => cont k ex st

def behind (k : List Fr) (r : Option (Ex × St)) : Option (Ex × St) := match r with
  | some (ex, st) => cont E K nl f nt n0 k ex st
  | none => none

def at_ (k : List Fr) (c : Code) (fr : FR) (h : Heap) (ds ls : List Nat) : Option (Ex × St) := behind E K nl f nt n0 k (exec E K nl f nt n0 c ⟨fr, h, ds, ls⟩)
def co (k : List Fr) (ex : Ex) (fr : FR) (h : Heap) (ds ls : List Nat) : Option (Ex × St) := cont E K nl f nt n0 k ex ⟨fr, h, ds, ls⟩
def lp (k : List Fr) (r : Option (Ex × St)) : Option (Ex × St) := behind E K nl f nt n0 k r
def cnd (k : List Fr) (a b : Code) (v : Option AV) (fr : FR) (h : Heap) (ds ls : List Nat) : Option (Ex × St) := match v with
  | some (.v (.bool t)) => match t with
    | true => at_ E K nl f nt n0 k a fr h ds ls
    | false => at_ E K nl f nt n0 k b fr h ds ls
  | _ => none

def rn (k : List Fr) (ops : Array Oper) (os : List Oper) (fr : FR) (h : Heap) (ds ls : List Nat) : Option (Ex × St) := match runOps E K f nt n0 ops os ⟨fr, h, ds, ls⟩ [] with
  | some (st', _) => cont E K nl f nt n0 k .normal st'
  | none => none
def rd (k : List Fr) (id : Nat) (ops : Array Oper) (os : List Oper) (cs : List Cl) (fr : FR) (h : Heap) (ds ls : List Nat) : Option (Ex × St) := match runOps E K f nt n0 ops os ⟨fr, h, ds, ls⟩ cs with
  | some (st', cs') => bif pairsOK cs' (E.pairs f id) then cont E K nl f nt n0 k .normal st' else none
  | none => none
def pn (k : List Fr) (ops : Array Oper) (d : Option Tmp) (os : List Oper) (fr : FR) (ds ls : List Nat) (x : Option Out) : Option (Ex × St) := match x with
  | some x => match putF nt fr d x.y with
    | some fr' => rn E K nl f nt n0 k ops os fr' x.h (mergeLt n0 x.ds ds) (mergeLt n0 x.ls ls)
    | none => none
  | none => none
def pd (k : List Fr) (id : Nat) (ops : Array Oper) (d : Option Tmp) (os : List Oper) (cs : List Cl) (fr : FR) (ds ls : List Nat) (x : Option Out) : Option (Ex × St) := match x with
  | some x => match putF nt fr d x.y with
    | some fr' => rd E K nl f nt n0 k id ops os (x.c :: cs) fr' x.h (mergeLt n0 x.ds ds) (mergeLt n0 x.ls ls)
    | none => none
  | none => none
def wn (k : List Fr) (ops : Array Oper) (o : Oper) (os : List Oper) (fr : FR) (h : Heap) (ds ls : List Nat) (b : Option Bool) : Option (Ex × St) := match b with
  | some false => match putF nt fr o.dst (.tup []) with
    | some fr' => rn E K nl f nt n0 k ops os fr' h ds ls
    | none => none
  | some true => pn E K nl f nt n0 k ops o.dst os fr ds ls (coreO E K f o fr h)
  | none => none
def wd (k : List Fr) (id : Nat) (ops : Array Oper) (o : Oper) (os : List Oper) (cs : List Cl) (fr : FR) (h : Heap) (ds ls : List Nat) (b : Option Bool) : Option (Ex × St) := match b with
  | some false => match putF nt fr o.dst (.tup []) with
    | some fr' => rd E K nl f nt n0 k id ops os (.skip :: cs) fr' h ds ls
    | none => none
  | some true => pd E K nl f nt n0 k id ops o.dst os cs fr ds ls (coreO E K f o fr h)
  | none => none

/-- What a guard says. -/
def grd (v : Option AV) (w : Bool) : Option Bool := match v with
  | some (.v (.bool b)) => some (b == w)
  | some (.tup []) => some false
  | _ => none
end

section
variable {E : Env} {K : CallK} {nl : Nat} {f : FuncId} {nt n0 : Nat} {k : List Fr} {fr : FR} {h : Heap} {ds ls : List Nat} {a b c : Code} {id : Nat} {ops : Array Oper} {os : List Oper} {cs : List Cl} {ty : TypeId} {ps : String} {af : Array Edge} {g : Option (Nat × Bool)} {dst : Option Tmp}

theorem Zaa {ex : Ex} : co E K nl f nt n0 [] ex fr h ds ls = some (ex, ⟨fr, h, ds, ls⟩) := rfl
theorem Zab : co E K nl f nt n0 (.seq c :: k) .normal fr h ds ls = at_ E K nl f nt n0 k c fr h ds ls := rfl
theorem Zac : co E K nl f nt n0 (.seq c :: k) .ret fr h ds ls = co E K nl f nt n0 k .ret fr h ds ls := rfl
theorem Zad {i : Nat} : co E K nl f nt n0 (.seq c :: k) (.exit i) fr h ds ls = co E K nl f nt n0 k (.exit i) fr h ds ls := rfl
theorem Zae {i : Nat} : co E K nl f nt n0 (.seq c :: k) (.goto i) fr h ds ls = co E K nl f nt n0 k (.goto i) fr h ds ls := rfl
theorem Zaf : co E K nl f nt n0 (.block id :: k) .normal fr h ds ls = co E K nl f nt n0 k .normal fr h ds ls := rfl
theorem Zag : co E K nl f nt n0 (.block id :: k) .ret fr h ds ls = co E K nl f nt n0 k .ret fr h ds ls := rfl
theorem Zah {i : Nat} : co E K nl f nt n0 (.block id :: k) (.goto i) fr h ds ls = co E K nl f nt n0 k (.goto i) fr h ds ls := rfl
theorem Zai {i : Nat} : co E K nl f nt n0 (.block id :: k) (.exit i) fr h ds ls = if i = id then co E K nl f nt n0 k .normal fr h ds ls else co E K nl f nt n0 k (.exit i) fr h ds ls := by
  unfold co
  simp only [cont]
  by_cases hi : i = id
  · subst hi; simp
  · have : Nat.beq i id = false := by
      cases hb : Nat.beq i id with
      | true => exact (hi (Nat.eq_of_beq_eq_true hb)).elim
      | false => rfl
    simp [this, hi]

theorem Zaj : at_ E K nl f nt n0 k .skip fr h ds ls = co E K nl f nt n0 k .normal fr h ds ls := by unfold at_; rw [exec]; rfl
theorem Zak {l : Nat} : at_ E K nl f nt n0 k (.label l) fr h ds ls = co E K nl f nt n0 k .normal fr h ds ls := by unfold at_; rw [exec]; rfl
theorem Zal : at_ E K nl f nt n0 k .ret fr h ds ls = co E K nl f nt n0 k .ret fr h ds ls := by unfold at_; rw [exec]; rfl
theorem Zam {i : Nat} : at_ E K nl f nt n0 k (.exit i) fr h ds ls = co E K nl f nt n0 k (.exit i) fr h ds ls := by unfold at_; rw [exec]; rfl
theorem Zan {i : Nat} : at_ E K nl f nt n0 k (.goto i) fr h ds ls = co E K nl f nt n0 k (.goto i) fr h ds ls := by unfold at_; rw [exec]; rfl
theorem Zao : at_ E K nl f nt n0 k (.seq a b) fr h ds ls = at_ E K nl f nt n0 (.seq b :: k) a fr h ds ls := by
  unfold at_
  rw [exec]
  cases he : exec E K nl f nt n0 a ⟨fr, h, ds, ls⟩ with
  | none => rfl
  | some p =>
    obtain ⟨ex, st⟩ := p
    cases ex <;> rfl
theorem Zap : at_ E K nl f nt n0 k (.block id b) fr h ds ls = at_ E K nl f nt n0 (.block id :: k) b fr h ds ls := by
  unfold at_
  rw [exec]
  cases he : exec E K nl f nt n0 b ⟨fr, h, ds, ls⟩ with
  | none => rfl
  | some p =>
    obtain ⟨ex, st⟩ := p
    cases ex with
    | exit i =>
      simp only [behind, cont]
      cases Nat.beq i id <;> rfl
    | _ => rfl
theorem Zaq {c : Operand} : at_ E K nl f nt n0 k (.cond c a b) fr h ds ls = cnd E K nl f nt n0 k a b (ev fr c) fr h ds ls := by
  unfold at_ cnd
  rw [exec]
  cases hv : ev fr c with
  | none => rfl
  | some v =>
    split
    · rename_i t he
      injection he with he
      subst he
      cases t <;> rfl
    · rename_i hn
      split
      · rename_i t he
        exact (hn t (by rw [he])).elim
      · rfl
theorem Zar : cnd E K nl f nt n0 k a b (some (.v (.bool true))) fr h ds ls = at_ E K nl f nt n0 k a fr h ds ls := rfl
theorem Zas : cnd E K nl f nt n0 k a b (some (.v (.bool false))) fr h ds ls = at_ E K nl f nt n0 k b fr h ds ls := rfl
theorem at_loop : at_ E K nl f nt n0 k (.loop b) fr h ds ls = lp E K nl f nt n0 k (loopN (exec E K nl f nt n0 b) (E.masks f) nl ⟨fr, h, ds, ls⟩) := by unfold at_; rw [exec]; rfl
theorem at_scope : at_ E K nl f nt n0 k (.scope b) fr h ds ls = lp E K nl f nt n0 k (scopeN (execFrom E K nl f nt n0 b) (hasLabel b) (E.masks f) nl (exec E K nl f nt n0 b ⟨fr, h, ds, ls⟩)) := by unfold at_; rw [exec]; rfl
theorem Zat {ex : Ex} : lp E K nl f nt n0 k (some (ex, ⟨fr, h, ds, ls⟩)) = co E K nl f nt n0 k ex fr h ds ls := rfl
theorem exec_at {st : St} : exec E K nl f nt n0 c st = at_ E K nl f nt n0 [] c st.fr st.h st.ds st.ls := by
  obtain ⟨fr, h, ds, ls⟩ := st
  unfold at_ behind
  cases exec E K nl f nt n0 c ⟨fr, h, ds, ls⟩ with
  | none => rfl
  | some p => rfl

theorem runOps_cs : ∀ (os : List Oper) (st : St) (cs cs' : List Cl), (runOps E K f nt n0 ops os st cs).map (·.1) = (runOps E K f nt n0 ops os st cs').map (·.1)
  | [], _, _, _ => rfl
  | o :: os, st, cs, cs' => by
    simp only [runOps]
    cases stepO E K f nt n0 ops o st with
    | none => rfl
    | some p => exact runOps_cs os p.1 _ _

theorem rn_any (cs : List Cl) : (match runOps E K f nt n0 ops os ⟨fr, h, ds, ls⟩ cs with | some (st', _) => cont E K nl f nt n0 k .normal st' | none => none) = rn E K nl f nt n0 k ops os fr h ds ls := by
  unfold rn
  have := runOps_cs (E := E) (K := K) (f := f) (nt := nt) (n0 := n0) (ops := ops) os ⟨fr, h, ds, ls⟩ cs []
  cases h1 : runOps E K f nt n0 ops os ⟨fr, h, ds, ls⟩ cs with
  | none =>
    rw [h1] at this
    cases h2 : runOps E K f nt n0 ops os ⟨fr, h, ds, ls⟩ [] with
    | none => rfl
    | some q => rw [h2] at this; cases this
  | some p =>
    rw [h1] at this
    cases h2 : runOps E K f nt n0 ops os ⟨fr, h, ds, ls⟩ [] with
    | none => rw [h2] at this; cases this
    | some q =>
      rw [h2] at this
      obtain ⟨p1, p2⟩ := p
      obtain ⟨q1, q2⟩ := q
      simp only [Option.map_some, Option.some.injEq] at this
      subst this
      rfl

theorem Zau : at_ E K nl f nt n0 k (.region id ops false) fr h ds ls = rn E K nl f nt n0 k ops ops.toList fr h ds ls := by
  unfold at_ rn
  rw [exec]
  cases runOps E K f nt n0 ops ops.toList ⟨fr, h, ds, ls⟩ [] with
  | none => rfl
  | some p => rfl
theorem Zav : at_ E K nl f nt n0 k (.region id ops true) fr h ds ls = rd E K nl f nt n0 k id ops ops.toList [] fr h ds ls := by
  unfold at_ rd
  rw [exec]
  cases runOps E K f nt n0 ops ops.toList ⟨fr, h, ds, ls⟩ [] with
  | none => rfl
  | some p =>
    obtain ⟨st, cs⟩ := p
    simp only [cond_true]
    cases pairsOK cs (E.pairs f id) <;> rfl
theorem Zaw : rn E K nl f nt n0 k ops [] fr h ds ls = co E K nl f nt n0 k .normal fr h ds ls := rfl
theorem Zaz : rd E K nl f nt n0 k id ops [] cs fr h ds ls = bif pairsOK cs (E.pairs f id) then co E K nl f nt n0 k .normal fr h ds ls else none := rfl

theorem rn_consG {o : Oper} : rn E K nl f nt n0 k ops (o :: os) fr h ds ls = wn E K nl f nt n0 k ops o os fr h ds ls (wantedE ops fr o) := by
  unfold rn wn pn
  simp only [runOps, stepO]
  cases wantedE ops fr o with
  | none => rfl
  | some t =>
    cases t with
    | false =>
      dsimp only
      cases putF nt fr o.dst (.tup []) with
      | none => rfl
      | some fr' => exact rn_any _
    | true =>
      dsimp only
      cases coreO E K f o fr h with
      | none => rfl
      | some x =>
        dsimp only
        cases putF nt fr o.dst x.y with
        | none => rfl
        | some fr' => exact rn_any _
theorem Zax {op : Op} : rn E K nl f nt n0 k ops (⟨dst, op, ty, ps, af, none⟩ :: os) fr h ds ls = pn E K nl f nt n0 k ops dst os fr ds ls (coreO E K f ⟨dst, op, ty, ps, af, none⟩ fr h) := by
  rw [rn_consG]; rfl
theorem Zay {op : Op} {j : Nat} {w : Bool} : rn E K nl f nt n0 k ops (⟨dst, op, ty, ps, af, some (j, w)⟩ :: os) fr h ds ls = wn E K nl f nt n0 k ops ⟨dst, op, ty, ps, af, some (j, w)⟩ os fr h ds ls (wantedE ops fr ⟨dst, op, ty, ps, af, some (j, w)⟩) := rn_consG
theorem rd_consG {o : Oper} : rd E K nl f nt n0 k id ops (o :: os) cs fr h ds ls = wd E K nl f nt n0 k id ops o os cs fr h ds ls (wantedE ops fr o) := by
  unfold rd wd pd
  simp only [runOps, stepO]
  cases wantedE ops fr o with
  | none => rfl
  | some t =>
    cases t with
    | false =>
      dsimp only
      cases putF nt fr o.dst (.tup []) <;> rfl
    | true =>
      dsimp only
      cases coreO E K f o fr h with
      | none => rfl
      | some x =>
        dsimp only
        cases putF nt fr o.dst x.y <;> rfl
theorem Zba {op : Op} : rd E K nl f nt n0 k id ops (⟨dst, op, ty, ps, af, none⟩ :: os) cs fr h ds ls = pd E K nl f nt n0 k id ops dst os cs fr ds ls (coreO E K f ⟨dst, op, ty, ps, af, none⟩ fr h) := by
  rw [rd_consG]; rfl
theorem Zbb {op : Op} {j : Nat} {w : Bool} : rd E K nl f nt n0 k id ops (⟨dst, op, ty, ps, af, some (j, w)⟩ :: os) cs fr h ds ls = wd E K nl f nt n0 k id ops ⟨dst, op, ty, ps, af, some (j, w)⟩ os cs fr h ds ls (wantedE ops fr ⟨dst, op, ty, ps, af, some (j, w)⟩) := rd_consG

theorem Zbc {op : Op} : wn E K nl f nt n0 k ops ⟨dst, op, ty, ps, af, g⟩ os fr h ds ls (some true) = pn E K nl f nt n0 k ops dst os fr ds ls (coreO E K f ⟨dst, op, ty, ps, af, g⟩ fr h) := rfl
theorem Zbd {op : Op} {d : Tmp} : wn E K nl f nt n0 k ops ⟨some d, op, ty, ps, af, g⟩ os fr h ds ls (some false) = if d < nt then rn E K nl f nt n0 k ops os ((d, .tup []) :: fr) h ds ls else none := by
  show (match (bif Nat.blt d nt then some ((d, AV.tup []) :: fr) else none) with | some fr' => _ | none => none) = _
  by_cases hd : d < nt
  · have : Nat.blt d nt = true := by rw [bltE]; exact decide_eq_true hd
    simp [this, hd]
  · have : Nat.blt d nt = false := by rw [bltE]; exact decide_eq_false hd
    simp [this, hd]
theorem Zbe {op : Op} : wn E K nl f nt n0 k ops ⟨none, op, ty, ps, af, g⟩ os fr h ds ls (some false) = rn E K nl f nt n0 k ops os fr h ds ls := rfl
theorem Zbf {op : Op} : wd E K nl f nt n0 k id ops ⟨dst, op, ty, ps, af, g⟩ os cs fr h ds ls (some true) = pd E K nl f nt n0 k id ops dst os cs fr ds ls (coreO E K f ⟨dst, op, ty, ps, af, g⟩ fr h) := rfl
theorem Zbg {op : Op} {d : Tmp} : wd E K nl f nt n0 k id ops ⟨some d, op, ty, ps, af, g⟩ os cs fr h ds ls (some false) = if d < nt then rd E K nl f nt n0 k id ops os (.skip :: cs) ((d, .tup []) :: fr) h ds ls else none := by
  show (match (bif Nat.blt d nt then some ((d, AV.tup []) :: fr) else none) with | some fr' => _ | none => none) = _
  by_cases hd : d < nt
  · have : Nat.blt d nt = true := by rw [bltE]; exact decide_eq_true hd
    simp [this, hd]
  · have : Nat.blt d nt = false := by rw [bltE]; exact decide_eq_false hd
    simp [this, hd]
theorem Zbh {op : Op} : wd E K nl f nt n0 k id ops ⟨none, op, ty, ps, af, g⟩ os cs fr h ds ls (some false) = rd E K nl f nt n0 k id ops os (.skip :: cs) fr h ds ls := rfl

theorem Zbi {d : Tmp} {y : AV} {h' : Heap} {c : Cl} {xs ys : List Nat} : pn E K nl f nt n0 k ops (some d) os fr ds ls (some ⟨y, h', c, xs, ys⟩) = if d < nt then rn E K nl f nt n0 k ops os ((d, y) :: fr) h' (mergeLt n0 xs ds) (mergeLt n0 ys ls) else none := by
  show (match (bif Nat.blt d nt then some ((d, y) :: fr) else none) with | some fr' => _ | none => none) = _
  by_cases hd : d < nt
  · have : Nat.blt d nt = true := by rw [bltE]; exact decide_eq_true hd
    simp [this, hd]
  · have : Nat.blt d nt = false := by rw [bltE]; exact decide_eq_false hd
    simp [this, hd]
theorem Zbj {y : AV} {h' : Heap} {c : Cl} {xs ys : List Nat} : pn E K nl f nt n0 k ops none os fr ds ls (some ⟨y, h', c, xs, ys⟩) = rn E K nl f nt n0 k ops os fr h' (mergeLt n0 xs ds) (mergeLt n0 ys ls) := rfl
theorem Zbk {d : Tmp} {y : AV} {h' : Heap} {c : Cl} {xs ys : List Nat} : pd E K nl f nt n0 k id ops (some d) os cs fr ds ls (some ⟨y, h', c, xs, ys⟩) = if d < nt then rd E K nl f nt n0 k id ops os (c :: cs) ((d, y) :: fr) h' (mergeLt n0 xs ds) (mergeLt n0 ys ls) else none := by
  show (match (bif Nat.blt d nt then some ((d, y) :: fr) else none) with | some fr' => _ | none => none) = _
  by_cases hd : d < nt
  · have : Nat.blt d nt = true := by rw [bltE]; exact decide_eq_true hd
    simp [this, hd]
  · have : Nat.blt d nt = false := by rw [bltE]; exact decide_eq_false hd
    simp [this, hd]
theorem Zbl {y : AV} {h' : Heap} {c : Cl} {xs ys : List Nat} : pd E K nl f nt n0 k id ops none os cs fr ds ls (some ⟨y, h', c, xs, ys⟩) = rd E K nl f nt n0 k id ops os (c :: cs) fr h' (mergeLt n0 xs ds) (mergeLt n0 ys ls) := rfl

theorem Zbm {op : Op} {j : Nat} {w : Bool} : wantedE ops fr ⟨dst, op, ty, ps, af, some (j, w)⟩ = match (ops[j]?).bind (·.dst) with
    | some d => grd (AM.get fr d) w
    | none => some false := rfl
theorem Zbn {b w : Bool} : grd (some (.v (.bool b))) w = some (b == w) := rfl
theorem Zbo {w : Bool} : grd (some (.tup [])) w = some false := rfl

theorem Zbp {x : AV} {i t : Nat} : AM.get ((i, x) :: fr) t = if i = t then some x else AM.get fr t := by
  show (bif Nat.beq i t then some x else AM.get fr t) = _
  by_cases hi : i = t
  · subst hi; simp
  · have : Nat.beq i t = false := by
      cases hb : Nat.beq i t with
      | true => exact (hi (Nat.eq_of_beq_eq_true hb)).elim
      | false => rfl
    simp [this, hi]
theorem Zbq {t : Tmp} : ev fr (.tmp t) = AM.get fr t := rfl
theorem Zbr {g : FuncId} : ev fr (.func g) = some (.fn (.func g) [] []) := rfl
theorem Zbs {kd : IntKind} {n : Int} : ev fr (.const (.int kd n)) = some (.v (.int kd n)) := rfl
theorem Zbt {b : Bool} : ev fr (.const (.bool b)) = some (.v (.bool b)) := rfl
theorem Zbu {b : ByteArray} : ev fr (.const (.string b)) = some (.v (.string b)) := rfl
theorem Zbv : ev fr (.const (.pointer none)) = some (.v (.pointer none)) := rfl
theorem Zbw : ev fr (.const (.slice none 0 0)) = some (.v (.slice none 0 0)) := rfl
theorem Zbx : ev fr (.const .nilIface) = some (.v .nilIface) := rfl
theorem Zby {x : Operand} {l : List Operand} : evL fr (x :: l) = match ev fr x, evL fr l with
    | some y, some ys => some (y :: ys)
    | _, _ => none := rfl
theorem Zbz : evL fr [] = some [] := rfl
theorem Zca {i : Nat} {x : Operand} {l : List (Nat × Operand)} : evP fr ((i, x) :: l) = match ev fr x, evP fr l with
    | some y, some ys => some ((i, y) :: ys)
    | _, _ => none := rfl
theorem Zcb : evP fr [] = some [] := rfl

/-! ### The operations -/
def o1 (y : Option AV) (h : Heap) (c : Cl) : Option Out := match y with
  | some y => some ⟨y, h, c, [], []⟩
  | none => none
theorem Zcc {y : AV} {c : Cl} : o1 (some y) h c = some ⟨y, h, c, [], []⟩ := rfl
def ap1 (F : AV → Option AV) (x : Option AV) : Option AV := match x with
  | some x => F x
  | none => none
def ap2 (F : AV → AV → Option AV) (x y : Option AV) : Option AV := match x, y with
  | some x, some y => F x y
  | _, _ => none
theorem Zcd {F : AV → Option AV} {x : AV} : ap1 F (some x) = F x := rfl
theorem Zce {F : AV → AV → Option AV} {x y : AV} : ap2 F (some x) (some y) = F x y := rfl

theorem Zcf {x : Operand} : coreO E K f ⟨dst, .move x, ty, ps, af, g⟩ fr h = o1 (ev fr x) h .pure := by
  unfold coreO o1; simp only [opE]; cases ev fr x <;> rfl
theorem Zcg {x : Operand} : coreO E K f ⟨dst, .assign x, ty, ps, af, g⟩ fr h = o1 (ev fr x) h .pure := by
  unfold coreO o1; simp only [opE]; cases ev fr x <;> rfl

def pk (c a b : Option AV) : Option AV := match c with
  | some (.v (.bool true)) => a
  | some (.v (.bool false)) => b
  | _ => none
theorem Zch {a b : Option AV} : pk (some (.v (.bool true))) a b = a := rfl
theorem Zci {a b : Option AV} : pk (some (.v (.bool false))) a b = b := rfl
theorem Zcj {c x y : Operand} : coreO E K f ⟨dst, .pick c x y, ty, ps, af, g⟩ fr h = o1 (pk (ev fr c) (ev fr x) (ev fr y)) h .pure := by
  unfold coreO o1 pk
  simp only [opE]
  split <;> rename_i hh
  · split at hh
    · rename_i h1
      split at hh
      · rename_i h2; rw [h1]; simp only [h2]; injection hh with hh; cases hh; rfl
      · cases hh
    · rename_i h1
      split at hh
      · rename_i h2; rw [h1]; simp only [h2]; injection hh with hh; cases hh; rfl
      · cases hh
    · cases hh
  · split at hh
    · rename_i h1
      split at hh
      · cases hh
      · rename_i h2; rw [h1]; simp only [h2]
    · rename_i h1
      split at hh
      · cases hh
      · rename_i h2; rw [h1]; simp only [h2]
    · rename_i h1 h2
      split
      · rename_i h3
        split at h3
        · rename_i h4; exact (h1 h4).elim
        · rename_i h4; exact (h2 h4).elim
        · cases h3
      · rfl

theorem Zck {op : BinOp} {t rt : TypeId} {x y : Operand} : coreO E K f ⟨dst, .binOp op t x y rt, ty, ps, af, g⟩ fr h = o1 (ap2 (binE E.P op t x y) (ev fr x) (ev fr y)) h .pure := by
  unfold coreO o1 ap2; simp only [opE]
  cases ev fr x with
  | none => rfl
  | some a => cases ev fr y with
    | none => rfl
    | some b => dsimp only; cases binE E.P op t x y a b <;> rfl
theorem Zcl {t : TypeId} {x : Operand} : coreO E K f ⟨dst, .load t x, ty, ps, af, g⟩ fr h = o1 (ap1 (loadE E.P h t) (ev fr x)) h (clsOf E f ⟨dst, .load t x, ty, ps, af, g⟩ fr) := by
  unfold coreO o1 ap1; simp only [opE]
  cases ev fr x with
  | none => rfl
  | some a => dsimp only; cases loadE E.P h t a <;> rfl
theorem Zcm {t : TypeId} {x : Operand} {i : Nat} : coreO E K f ⟨dst, .field t x i, ty, ps, af, g⟩ fr h = o1 (ap1 (fun a => fieldE E.P t a i) (ev fr x)) h .pure := by
  unfold coreO o1 ap1; simp only [opE]
  cases ev fr x with
  | none => rfl
  | some a => dsimp only; cases fieldE E.P t a i <;> rfl
theorem Zcn {t : TypeId} {x : Operand} {i : Nat} : coreO E K f ⟨dst, .fieldAddr t x i, ty, ps, af, g⟩ fr h = o1 (ap1 (fun a => fieldAddrE E.P t a i) (ev fr x)) h .pure := by
  unfold coreO o1 ap1; simp only [opE]
  cases ev fr x with
  | none => rfl
  | some a => dsimp only; cases fieldAddrE E.P t a i <;> rfl
theorem Zco {t : TypeId} {x i : Operand} : coreO E K f ⟨dst, .index t x i, ty, ps, af, g⟩ fr h = o1 (ap2 (indexE E.P t) (ev fr x) (ev fr i)) h .pure := by
  unfold coreO o1 ap2; simp only [opE]
  cases ev fr x with
  | none => rfl
  | some a => cases ev fr i with
    | none => rfl
    | some b => dsimp only; cases indexE E.P t a b <;> rfl
theorem Zcp {t : TypeId} {x i : Operand} : coreO E K f ⟨dst, .indexAddr t x i, ty, ps, af, g⟩ fr h = o1 (ap2 (indexAddrE E.P h t) (ev fr x) (ev fr i)) h (clsOf E f ⟨dst, .indexAddr t x i, ty, ps, af, g⟩ fr) := by
  unfold coreO o1 ap2; simp only [opE]
  cases ev fr x with
  | none => rfl
  | some a => cases ev fr i with
    | none => rfl
    | some b => dsimp only; cases indexAddrE E.P h t a b <;> rfl
def exL (i : Nat) : AV → Option AV
  | .tup l => l[i]?
  | _ => none
theorem Zcq {x : Operand} {i : Nat} : coreO E K f ⟨dst, .extract x i, ty, ps, af, g⟩ fr h = o1 (ap1 (exL i) (ev fr x)) h .pure := by
  unfold coreO o1 ap1; simp only [opE]
  cases ev fr x with
  | none => rfl
  | some a => cases a with
    | tup l => dsimp only [exL]; cases l[i]? <;> rfl
    | _ => rfl
def unL (P : Program) (op : UnOp) (a : AV) : Option AV := match toV a with
  | some b => pure1 (prun P (Op.unary op b))
  | none => none
theorem Zcr {op : UnOp} {t : TypeId} {x : Operand} : coreO E K f ⟨dst, .unOp op t x, ty, ps, af, g⟩ fr h = o1 (ap1 (unL E.P op) (ev fr x)) h .pure := by
  unfold coreO o1 ap1 unL; simp only [opE]
  cases ev fr x with
  | none => rfl
  | some a =>
    dsimp only
    cases toV a with
    | none => rfl
    | some b => dsimp only; cases pure1 (prun E.P (Op.unary op b)) <;> rfl
def nlC : AV → Option AV
  | .ptr id gen i p q => some (.ptr id gen i p q)
  | .rop y => some (.rop y)
  | .fn (.func g) a b => some (.fn (.func g) a b)
  | _ => none
theorem Zcs {x : Operand} : coreO E K f ⟨dst, .nilCheck x, ty, ps, af, g⟩ fr h = o1 (ap1 nlC (ev fr x)) h .pure := by
  unfold coreO o1 ap1 nlC; simp only [opE]
  cases ev fr x with
  | none => rfl
  | some a => cases a with
    | fn f2 p q => cases f2 <;> rfl
    | _ => rfl

def alO (h : Heap) (t : TypeId) (z : Option AV) : Option Out := match z with
  | some z => bif Nat.ble 1 (leafs z) then some ⟨.ptr h.length 0 0 [] 0, h ++ [.row (leafs z) 0 [z] ⟨true, t⟩], .w, [], []⟩ else none
  | none => none
theorem Zct {t : TypeId} {z : AV} : alO h t (some z) = bif Nat.ble 1 (leafs z) then some ⟨.ptr h.length 0 0 [] 0, h ++ [.row (leafs z) 0 [z] ⟨true, t⟩], .w, [], []⟩ else none := rfl
theorem Zcu {t : TypeId} : coreO E K f ⟨dst, .alloc t, ty, ps, af, g⟩ fr h = alO h t (E.zero t) := by
  unfold coreO alO; simp only [opE]
  cases E.zero t with
  | none => rfl
  | some z => dsimp only; cases Nat.ble 1 (leafs z) <;> rfl
def bxO (h : Heap) (t : TypeId) (y : Option AV) : Option Out := match y with
  | some y => bif Nat.ble 1 (leafs y) && !isTupA y then some ⟨.ptr h.length 0 0 [] 0, h ++ [.row (leafs y) 0 [y] ⟨true, t⟩], .w, [], []⟩ else none
  | none => none
theorem Zcv {t : TypeId} {y : AV} : bxO h t (some y) = bif Nat.ble 1 (leafs y) && !isTupA y then some ⟨.ptr h.length 0 0 [] 0, h ++ [.row (leafs y) 0 [y] ⟨true, t⟩], .w, [], []⟩ else none := rfl
theorem Zcw {t : TypeId} {x : Operand} : coreO E K f ⟨dst, .box t x, ty, ps, af, g⟩ fr h = bxO h t (ev fr x) := by
  unfold coreO bxO; simp only [opE]
  cases ev fr x with
  | none => rfl
  | some z => dsimp only; cases (Nat.ble 1 (leafs z) && !isTupA z) <;> rfl
def stO (P : Program) (h : Heap) (t : TypeId) (c : Cl) (p y : Option AV) : Option Out := match p, y with
  | some p, some y => match storeE P h t p y with
    | some (h', id) => some ⟨.tup [], h', c, [id], bif !idfree y then [id] else []⟩
    | none => none
  | _, _ => none
theorem Zcx {t : TypeId} {x y : Operand} : coreO E K f ⟨dst, .store t x y, ty, ps, af, g⟩ fr h = stO E.P h t (clsOf E f ⟨dst, .store t x y, ty, ps, af, g⟩ fr) (ev fr x) (ev fr y) := by
  unfold coreO stO; simp only [opE]
  cases ev fr x with
  | none => rfl
  | some a => cases ev fr y with
    | none => rfl
    | some b => dsimp only; cases storeE E.P h t a b <;> rfl
theorem Zcy {P : Program} {t : TypeId} {c : Cl} {p y : AV} : stO P h t c (some p) (some y) = match storeE P h t p y with
    | some (h', id) => some ⟨.tup [], h', c, [id], bif !idfree y then [id] else []⟩
    | none => none := rfl

def blO (r : OpRes) : Option Out := match r with
  | some (y, h', s, c) => some (outOf y h' s c)
  | none => none
theorem Zcz {y : AV} {h' : Heap} {c : Cl} : blO (some (y, h', none, c)) = some ⟨y, h', c, [], []⟩ := rfl
theorem Zda {y : AV} {h' : Heap} {c : Cl} {id : Nat} {b : Bool} : blO (some (y, h', some (id, b), c)) = some ⟨y, h', c, [id], bif b then [id] else []⟩ := rfl
def apL (F : List AV → Option Out) (l : Option (List AV)) : Option Out := match l with
  | some l => F l
  | none => none
theorem Zdb {F : List AV → Option Out} {l : List AV} : apL F (some l) = F l := rfl
theorem Zdc {bi : Builtin} {args : Array Operand} {ts : Array TypeId} : coreO E K f ⟨dst, .call { callee := .builtin bi, args := args, argTypes := ts }, ty, ps, af, g⟩ fr h = apL (fun l => blO (builtinE E h bi ts ty l)) (evL fr args.toList) := by
  unfold coreO apL
  dsimp only
  cases evL fr args.toList with
  | none => rfl
  | some l =>
    dsimp only
    unfold blO
    cases builtinE E h bi ts ty l with
    | none => rfl
    | some p => rfl
def kO (r : Option (AV × Heap × Eff)) : Option Out := match r with
  | some (y, h', e) => some ⟨y, h', bif e.q then .quiet else .w, e.ds, e.ls⟩
  | none => none
theorem Zdd {y : AV} {h' : Heap} {xs ys : List Nat} {q : Bool} : kO (some (y, h', ⟨xs, ys, q⟩)) = some ⟨y, h', bif q then .quiet else .w, xs, ys⟩ := rfl
def clO (K : CallK) (h : Heap) (x : Option AV) (l : Option (List AV)) : Option Out := match x, l with
  | some (.fn (.func g) first captured), some l => kO (K g (first ++ l ++ captured) h)
  | _, _ => none
theorem Zde {g : FuncId} {p q l : List AV} : clO K h (some (.fn (.func g) p q)) (some l) = kO (K g (p ++ l ++ q) h) := rfl
theorem Zdf {x : Operand} {args : Array Operand} {ts : Array TypeId} : coreO E K f ⟨dst, .call { callee := .value x, args := args, argTypes := ts }, ty, ps, af, g⟩ fr h = clO K h (ev fr x) (evL fr args.toList) := by
  unfold coreO clO callArgs
  dsimp only
  split
  · rename_i g2 l hh
    split at hh
    · rename_i p q l2 h1 h2
      injection hh with hh
      injection hh with hg hl
      subst hg; subst hl
      rw [h1, h2]
      simp only [kO]
      cases K _ _ h <;> rfl
    · cases hh
  · rename_i hh
    split at hh
    · cases hh
    · rename_i hn
      split
      · rename_i p q l2 h1 h2
        exact (hn _ _ _ _ h1 h2).elim
      · rfl
def opO (r : Option (AV × Heap × Option (Nat × Bool))) (c : Cl) : Option Out := match r with
  | some (y, h', s) => some (outOf y h' s c)
  | none => none
theorem Zdg {y : AV} {h' : Heap} {c : Cl} : opO (some (y, h', none)) c = some ⟨y, h', c, [], []⟩ := rfl
theorem core_build {t : TypeId} {xs : Array (Nat × Operand)} : coreO E K f ⟨dst, .build t xs, ty, ps, af, g⟩ fr h = opO (opE E f fr h ⟨dst, .build t xs, ty, ps, af, g⟩) .pure := rfl
theorem core_bslice {t : TypeId} {n : Nat} {xs : Array (Nat × Operand)} : coreO E K f ⟨dst, .buildSlice t n xs, ty, ps, af, g⟩ fr h = opO (opE E f fr h ⟨dst, .buildSlice t n xs, ty, ps, af, g⟩) (clsOf E f ⟨dst, .buildSlice t n xs, ty, ps, af, g⟩ fr) := rfl
theorem core_slice {t : TypeId} {x : Operand} {lo hi mx : Option Operand} : coreO E K f ⟨dst, .slice t x lo hi mx, ty, ps, af, g⟩ fr h = opO (opE E f fr h ⟨dst, .slice t x lo hi mx, ty, ps, af, g⟩) (clsOf E f ⟨dst, .slice t x lo hi mx, ty, ps, af, g⟩ fr) := rfl
theorem core_conv {s t : TypeId} {x : Operand} : coreO E K f ⟨dst, .convert s t x, ty, ps, af, g⟩ fr h = opO (opE E f fr h ⟨dst, .convert s t x, ty, ps, af, g⟩) (clsOf E f ⟨dst, .convert s t x, ty, ps, af, g⟩ fr) := rfl
theorem core_mkfn {x : Fn} {l r : Array Operand} : coreO E K f ⟨dst, .makeFunc x l r, ty, ps, af, g⟩ fr h = opO (opE E f fr h ⟨dst, .makeFunc x l r, ty, ps, af, g⟩) .pure := rfl
theorem core_mkmap {t : TypeId} : coreO E K f ⟨dst, .makeMap t none, ty, ps, af, g⟩ fr h = opO (opE E f fr h ⟨dst, .makeMap t none, ty, ps, af, g⟩) .w := rfl

/-! ### A call -/
def fin (E : Env) (f : FuncId) (h : Heap) (rs : List ResultVar) (r : Option (Ex × St)) : Option (AV × Heap × Eff) := match r with
  | some (.normal, st) | some (.ret, st) => match resultsE E.P st rs with
    | some l => some (finish (E.keep f) h st (oneOrTup l))
    | none => none
  | _ => none
theorem call_at {n : Nat} {args : List AV} {fn : Func} {c : Code} (hov : E.ov f = none) (hf : E.P.funcs[f]? = some fn) (hb : fn.body = some c) (ha : args.length ≤ fn.ntmps) :
    call E (n + 1) f args h = fin E f h fn.results.toList (at_ E (call E n) n f fn.ntmps h.length [] c (args0 0 args) h [] []) := by
  show (match E.ov f with | some o => o args h | none => _) = _
  rw [hov]
  simp only [hf, hb]
  have : Nat.ble args.length fn.ntmps = true := Nat.ble_eq_true_of_le ha
  simp only [this, cond_true]
  rw [exec_at]
  unfold fin
  rfl
theorem Zdr {st : St} {rs : List ResultVar} : fin E f h rs (some (.normal, st)) = match resultsE E.P st rs with
    | some l => some (finish (E.keep f) h st (oneOrTup l))
    | none => none := rfl
theorem Zds {st : St} {rs : List ResultVar} : fin E f h rs (some (.ret, st)) = match resultsE E.P st rs with
    | some l => some (finish (E.keep f) h st (oneOrTup l))
    | none => none := rfl
theorem Zdt {st : St} : resultsE E.P st [] = some [] := rfl
theorem Zdu {st : St} {t : Tmp} {rs : List ResultVar} : resultsE E.P st (.tmp t :: rs) = match AM.get st.fr t, resultsE E.P st rs with
    | some y, some ys => some (y :: ys)
    | _, _ => none := rfl
/-- What a function without freezing leaves. -/
theorem finish_drop {h0 : Heap} {st : St} {r r' : AV} (hl : st.ls = []) (hd : st.ds = []) (hr : frz h0.length st.h r = some r') : finish false h0 st r = (r', h0, ⟨[], [], true⟩) := by
  unfold finish
  simp [hl, hd, hr]
def fzO (h0 : Heap) (r : AV) (h : Heap) (ds : List Nat) : Option AV → AV × Heap × Eff
  | some r' => match ds with
    | [] => (r', h0, ⟨[], [], true⟩)
    | _ :: _ => (r', h.take h0.length, ⟨ds, [], false⟩)
  | none => (r, h, ⟨ds, [], false⟩)
theorem Zem {h0 : Heap} {r : AV} : finish false h0 ⟨fr, h, ds, []⟩ r = fzO h0 r h ds (frz h0.length h r) := by
  unfold finish fzO
  simp only [cond_false]
  cases frz h0.length h r with
  | none => rfl
  | some r' => cases ds <;> rfl
theorem Zen {h0 : Heap} {r r' : AV} : fzO h0 r h [] (some r') = (r', h0, ⟨[], [], true⟩) := rfl
theorem Zeo {h0 : Heap} {r r' : AV} {i : Nat} {l : List Nat} : fzO h0 r h (i :: l) (some r') = (r', h.take h0.length, ⟨i :: l, [], false⟩) := rfl
theorem Zep {h0 : Heap} {r : AV} : finish true h0 ⟨fr, h, ds, ls⟩ r = (r, h, ⟨ds, ls, false⟩) := rfl
theorem Zeq {h0 : Heap} {r : AV} {i : Nat} {l : List Nat} : finish false h0 ⟨fr, h, ds, i :: l⟩ r = (r, h, ⟨ds, i :: l, false⟩) := rfl
theorem Zdv {l : List Nat} : mergeLt n0 [] l = l := rfl
theorem Zdz {i : Nat} {l : List Nat} : mergeLt n0 [i] l = if i < n0 then ins i l else l := by
  show (bif Nat.blt i n0 then ins i l else l) = _
  by_cases hd : i < n0
  · have : Nat.blt i n0 = true := by rw [bltE]; exact decide_eq_true hd
    simp [this, hd]
  · have : Nat.blt i n0 = false := by rw [bltE]; exact decide_eq_false hd
    simp [this, hd]
end

/-! ### Integers -/
section
variable {P : Program} {t : TypeId} {ox oy : Operand} {kd : IntKind} {x y : Int}
theorem Zea : binE P .add t ox oy (.v (.int kd x)) (.v (.int kd y)) = some (.v (.int kd (kd.wrap (x + y)))) := by
  cases kd <;> rfl
theorem Zeb : binE P .sub t ox oy (.v (.int kd x)) (.v (.int kd y)) = some (.v (.int kd (kd.wrap (x - y)))) := by
  cases kd <;> rfl
theorem Zec : binE P .mul t ox oy (.v (.int kd x)) (.v (.int kd y)) = some (.v (.int kd (kd.wrap (x * y)))) := by
  cases kd <;> rfl
theorem Zed : binE P .lss t ox oy (.v (.int kd x)) (.v (.int kd y)) = some (.v (.bool (decide (x < y)))) := by
  cases kd <;> rfl
theorem Zee : binE P .leq t ox oy (.v (.int kd x)) (.v (.int kd y)) = some (.v (.bool (decide (x ≤ y)))) := by
  cases kd <;> rfl
theorem Zef : binE P .gtr t ox oy (.v (.int kd x)) (.v (.int kd y)) = some (.v (.bool (decide (y < x)))) := by
  cases kd <;> rfl
theorem Zeg : binE P .geq t ox oy (.v (.int kd x)) (.v (.int kd y)) = some (.v (.bool (decide (y ≤ x)))) := by
  cases kd <;> rfl
theorem Zeh : binE P .eql t ox oy (.v (.int kd x)) (.v (.int kd y)) = some (.v (.bool (x == y))) := by
  cases kd <;> rfl
theorem Zei : binE P .neq t ox oy (.v (.int kd x)) (.v (.int kd y)) = some (.v (.bool (x != y))) := by
  cases kd <;> rfl
theorem Zej {b : Bool} : unL P .not (.v (.bool b)) = some (.v (.bool !b)) := rfl
end

/-! ### The heap's end -/
section
variable {h l : Heap} {r : Row}
theorem end0 : (h ++ l)[h.length]? = l[0]? := by rw [List.getElem?_append_right (Nat.le_refl _)]; simp
theorem end1 {i : Nat} : (h ++ l)[h.length + i]? = l[i]? := by rw [List.getElem?_append_right (by omega)]; simp
theorem endS0 : (h ++ l).set h.length r = h ++ l.set 0 r := by rw [List.set_append_right _ _ (Nat.le_refl _)]; simp
theorem endS1 {i : Nat} : (h ++ l).set (h.length + i) r = h ++ l.set i r := by rw [List.set_append_right _ _ (by omega)]; simp
end

end Go.AM
