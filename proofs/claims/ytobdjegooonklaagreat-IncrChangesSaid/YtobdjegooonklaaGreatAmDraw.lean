/- Regions whose order is drawn: every order leaves what the text's order leaves. Conditions: none. -/
import Derived.Test.YtobdjegooonklaaGreatAmMaps
set_option linter.unusedVariables false
set_option linter.unusedSimpArgs false
namespace Go.AM
open Go

variable {F : Fz} {m : Mp} {fr : FR} {a : Act} {h : Heap} {w : World} {P : Program}

/-! ### Of the slots only those that are looked at count -/
def Agree (os : Array Operand) (fr fr2 : FR) : Prop := ∀ x ∈ os, ev fr2 x = ev fr x

theorem evL_congr {fr fr2 : FR} : ∀ (l : List Operand), (∀ x ∈ l, ev fr2 x = ev fr x) → evL fr2 l = evL fr l
  | [], _ => rfl
  | x :: l, hx => by simp only [evL]; rw [hx x (by simp), evL_congr l fun y hy => hx y (by simp [hy])]

theorem evP_congr {fr fr2 : FR} : ∀ (l : List (Nat × Operand)), (∀ x ∈ l.map (·.2), ev fr2 x = ev fr x) → evP fr2 l = evP fr l
  | [], _ => rfl
  | (i, x) :: l, hx => by simp only [evP]; rw [hx x (by simp), evP_congr l fun y hy => hx y (by simp at hy ⊢; right; exact hy)]

theorem evO_congr {fr fr2 : FR} (x : Option Operand) (hx : ∀ y ∈ x.toArray, ev fr2 y = ev fr y) : opE.evO fr2 x = opE.evO fr x := by
  cases x with
  | none => rfl
  | some y => simp only [opE.evO]; rw [hx y (by simp)]

theorem opE_congr (E : Env) (f : FuncId) {fr fr2 : FR} (h : Heap) (o : Oper) (ha : Agree o.op.operands fr fr2) : opE E f fr2 h o = opE E f fr h o := by
  obtain ⟨dst, op, type, pos, after, guard⟩ := o
  cases op <;> simp only [Agree, Op.operands] at ha <;> simp only [opE]
  case build t ps => rw [evP_congr ps.toList fun x hx => ha x (by simpa using hx)]
  case buildSlice t n ps => rw [evP_congr ps.toList fun x hx => ha x (by simpa using hx)]
  case makeFunc fn first captured =>
    rw [evL_congr first.toList fun x hx => ha x (by simp at hx ⊢; exact .inl hx), evL_congr captured.toList fun x hx => ha x (by simp at hx ⊢; exact .inr hx)]
  case slice t x lo hi mx =>
    rw [ha x (by simp), evO_congr lo fun y hy => ha y (by simp at hy ⊢; simp [hy]), evO_congr hi fun y hy => ha y (by simp at hy ⊢; simp [hy]), evO_congr mx fun y hy => ha y (by simp at hy ⊢; simp [hy])]
  case makeMap t r => cases r <;> simp_all
  all_goals (first | rfl | (simp_all; done))

theorem clsOf_congr (E : Env) (f : FuncId) {fr fr2 : FR} (o : Oper) (ha : Agree o.op.operands fr fr2) : clsOf E f o fr2 = clsOf E f o fr := by
  obtain ⟨dst, op, type, pos, after, guard⟩ := o
  cases op <;> simp only [Agree, Op.operands] at ha <;> simp only [clsOf]
  case load t x => rw [ha x (by simp)]
  case store t x y => rw [ha x (by simp)]
  case convert t u x => rw [ha x (by simp)]
  case slice t x lo hi mx => rw [ha x (by simp)]
  case indexAddr t x i => rw [ha x (by simp)]

theorem coreO_congr (E : Env) (K : CallK) (f : FuncId) {fr fr2 : FR} (h : Heap) (o : Oper) (ha : Agree o.op.operands fr fr2) : coreO E K f o fr2 h = coreO E K f o fr h := by
  have h1 := opE_congr E f h o ha
  have h2 := clsOf_congr E f o ha
  obtain ⟨dst, op, type, pos, after, guard⟩ := o
  cases op <;> simp only [coreO] <;> try rw [h1, h2]
  case call c =>
    simp only [Agree, Op.operands] at ha
    have hargs : evL fr2 c.args.toList = evL fr c.args.toList := evL_congr _ fun x hx => ha x (by simp at hx; simp [Call.operands, hx])
    have hc : callArgs fr2 c = callArgs fr c := by
      unfold callArgs
      cases hc : c.callee with
      | value x => dsimp only; rw [hargs, ha x (by simp [Call.operands, hc])]
      | _ => rfl
    rw [hargs, hc]
  case mapUpdate t x y z => simp only [Agree, Op.operands] at ha; rw [ha x (by simp), ha y (by simp), ha z (by simp)]
  case insert t x y z => simp only [Agree, Op.operands] at ha; rw [ha x (by simp), ha y (by simp), ha z (by simp)]
  case lookup t x y z => simp only [Agree, Op.operands] at ha; rw [ha x (by simp), ha y (by simp)]

/-! ### Of the heap only the row that is read counts -/
def depP : AV → Option Nat
  | .ptr id .. => some id
  | _ => none

def dep : AV → Option Nat
  | .sl id .. | .isl id .. => some id
  | _ => none

def Loc (a : AV) (h h2 : Heap) : Prop := ∀ id, dep a = some id → h2[id]? = h[id]?
def LocP (a : AV) (h h2 : Heap) : Prop := ∀ id, depP a = some id → h2[id]? = h[id]?

theorem lookAt_loc {a : AV} {h h2 : Heap} (l : LocP a h h2) : lookAt h2 a = lookAt h a := by
  cases a <;> try rfl
  simp only [lookAt]; rw [l _ rfl]

theorem elsOf_loc {a : AV} {h h2 : Heap} (l : Loc a h h2) : elsOf h2 a = elsOf h a := by
  cases a <;> try rfl
  · simp only [elsOf]; rw [l _ rfl]
  · simp only [elsOf]; rw [l _ rfl]

theorem strOf_loc {a : AV} {h h2 : Heap} (l : Loc a h h2) : strOf h2 a = strOf h a := by
  have hl := elsOf_loc l
  unfold strOf
  split <;> simp only [hl]

theorem loadE_loc {t : TypeId} {a : AV} {h h2 : Heap} (l : LocP a h h2) : loadE P h2 t a = loadE P h t a := by
  unfold loadE; rw [lookAt_loc l]

theorem sliceE_loc {t : TypeId} {a : AV} {x y z : Option AV} {h h2 : Heap} (l : Loc a h h2) : sliceE P h2 t a x y z = sliceE P h t a x y z := by
  have hl : ∀ id gen off len, a = .sl id gen off len → h2[id]? = h[id]? := fun _ _ _ _ e => l _ (by subst e; rfl)
  unfold sliceE
  congr 1
  split
  · rfl
  · split <;> first | rfl | skip
    rw [hl _ _ _ _ rfl]
  · rfl
  · rfl

theorem placeE_loc {id gen i o : Nat} {h h2 : Heap} (l : h2[id]? = h[id]?) : placeE P h2 id gen i o = placeE P h id gen i o := by
  unfold placeE; rw [l]

theorem convPtr_loc {s t : TypeId} {a : AV} {h h2 : Heap} (l : LocP a h h2) : convPtr P h2 s t a = convPtr P h s t a := by
  unfold convPtr
  split
  · rw [placeE_loc (l _ rfl)]
  · rw [placeE_loc (l _ rfl)]
  · rfl

theorem indexAddrE_loc {t : TypeId} {a x : AV} {h h2 : Heap} (l : Loc a h h2) : indexAddrE P h2 t a x = indexAddrE P h t a x := by
  have hl : ∀ id gen off len, a = .sl id gen off len → h2[id]? = h[id]? := fun _ _ _ _ e => l _ (by subst e; rfl)
  unfold indexAddrE
  split
  · rfl
  · split <;> first | rfl | skip
    rw [hl _ _ _ _ rfl]
  · rfl

/-- The heap's share in a class: what must stand the same. -/
def HeapSame (c : Cl) (h h2 : Heap) : Prop := match c with
  | .skip | .pure => True
  | .rd (some id) => h2[id]? = h[id]?
  | _ => h2 = h

def noisy : Cl → Bool
  | .st _ | .w => true
  | _ => false

def QuietK (K : CallK) : Prop := ∀ f args h y h' e, K f args h = some (y, h', e) → e.q = true → h' = h ∧ e.ds = [] ∧ e.ls = []

structure Calm (x : Out) (h : Heap) : Prop where
  quiet : noisy x.c = false → x.h = h ∧ x.ds = [] ∧ x.ls = []
  st : ∀ id, x.c = .st id → ∀ j, j ≠ id → x.h[j]? = h[j]?

/-- What reads and writes nothing of the heap but the row that its class names. -/
theorem opE_free {E : Env} {f : FuncId} {o : Oper} {h h2 : Heap} (hc : noisy (clsOf E f o fr) = false) (hs : HeapSame (clsOf E f o fr) h h2) :
    opE E f fr h2 o = (opE E f fr h o).map fun p => (p.1, h2, none) := by
  obtain ⟨dst, op, type, pos, after, guard⟩ := o
  cases op <;> simp only [clsOf, noisy] at hc hs <;> simp only [opE] <;> try rfl
  case load t x =>
    cases hx : ev fr x with
    | none => rfl
    | some p =>
      have l : LocP p h h2 := by
        rw [hx] at hs
        intro id hd
        cases p <;> simp_all [depP, HeapSame]
      dsimp only
      rw [loadE_loc l]
      split <;> rfl
  case convert t u x =>
    cases hx : ev fr x with
    | none => rfl
    | some p =>
      have l : Loc p h h2 := by
        rw [hx] at hs
        intro id hd
        cases p <;> simp_all [dep, HeapSame]
      have hst := strOf_loc l
      have lp : LocP p h h2 := by
        rw [hx] at hs
        intro id hd
        cases p <;> simp_all [depP, HeapSame]
      have hcp := convPtr_loc (P := E.P) (s := t) (t := u) lp
      dsimp only
      split
      · split <;> rfl
      · split
        · rw [hst]; split <;> rfl
        · rfl
      · split
        · split <;> rfl
        · rw [hcp]; split <;> rfl
  case slice t x lo hi mx =>
    split
    · rename_i p l r m hx _ _ _
      have l : Loc p h h2 := by
        rw [hx] at hs
        intro id hd
        cases p <;> simp_all [dep, HeapSame]
      rw [sliceE_loc l]
      split <;> rfl
    · rfl
  case indexAddr t x i =>
    split
    · rename_i p j hx _
      have l : Loc p h h2 := by
        rw [hx] at hs
        intro id hd
        cases p <;> simp_all [dep, HeapSame]
      rw [indexAddrE_loc l]
      split <;> rfl
    · rfl
  case store t x y =>
    cases hx : ev fr x with
    | none => simp [hx] at hc
    | some p => cases p <;> simp [hx] at hc
  case buildSlice t n ps =>
    cases hr : E.rows f with
    | true => simp [hr] at hc
    | false =>
      repeat' (first | rfl | split)
      generalize (Nat.ble _ 16777216 && Nat.ble 1 _) = b
      cases b <;> rfl
  all_goals first | (cases hc; done) | (repeat' (first | rfl | split))

theorem opE_free_out {E : Env} {f : FuncId} {o : Oper} {y : AV} {h' : Heap} {s : Option (Nat × Bool)} (ho : opE E f fr h o = some (y, h', s)) (hc : noisy (clsOf E f o fr) = false) :
    h' = h ∧ s = none := by
  have hs : HeapSame (clsOf E f o fr) h h := by
    unfold HeapSame
    split <;> trivial
  have := opE_free hc hs
  rw [ho] at this
  simp only [Option.map_some, Option.some.injEq, Prod.mk.injEq] at this
  exact ⟨this.2.1, this.2.2⟩

theorem opE_st_out {E : Env} {f : FuncId} {o : Oper} {y : AV} {h' : Heap} {s : Option (Nat × Bool)} (ho : opE E f fr h o = some (y, h', s)) {id : Nat} (hc : clsOf E f o fr = .st id) :
    ∀ j, j ≠ id → h'[j]? = h[j]? := by
  obtain ⟨dst, op, type, pos, after, guard⟩ := o
  cases op <;> simp only [clsOf] at hc <;> try (cases hc; done)
  case load t x => split at hc <;> cases hc
  case convert t u x => split at hc <;> cases hc
  case slice t x lo hi mx => split at hc <;> cases hc
  case indexAddr t x i => split at hc <;> cases hc
  case buildSlice t n ps => cases hr : E.rows f <;> simp [hr] at hc
  case store t x z =>
    split at hc
    · rename_i id' gen i pp off hx
      injection hc with hc
      subst hc
      simp only [opE, hx] at ho
      cases hz : ev fr z with
      | none => simp [hz] at ho
      | some q =>
        simp only [hz] at ho
        split at ho
        · rename_i h1 id2 hs
          simp only [Option.some.injEq, Prod.mk.injEq] at ho
          obtain ⟨rfl, rfl, rfl⟩ := ho
          unfold storeE at hs
          split at hs
          · rename_i id3 gen3 i3 p3 o3 n heq hn
            split at hs
            · rename_i k g els ex hr
              cases hb : (Nat.beq g gen3 && Nat.beq (leafs q) n && !isTupA q) with
              | false => simp [hb] at hs
              | true =>
                simp only [hb, cond_true] at hs
                split at hs
                · split at hs
                  · simp only [Option.some.injEq, Prod.mk.injEq] at hs
                    obtain ⟨rfl, rfl⟩ := hs
                    intro j hj
                    cases heq
                    rw [List.getElem?_set_ne (by omega)]
                  · cases hs
                · cases hs
            · cases hs
          · cases hs
        · cases ho
    · cases hc

/-! ### Builtins -/
def Fine (h : Heap) (r : OpRes) : Prop := ∀ y h' s c, r = some (y, h', s, c) → (noisy c = false → h' = h ∧ s = none) ∧ ∀ id, c = .st id → ∀ j, j ≠ id → h'[j]? = h[j]?

theorem fine_none : Fine h none := fun _ _ _ _ e => by cases e
theorem fine_same {y : AV} {c : Cl} (hc : ∀ id, c ≠ .st id) : Fine h (some (y, h, none, c)) := fun _ _ _ _ e => by
  simp only [Option.some.injEq, Prod.mk.injEq] at e
  obtain ⟨rfl, rfl, rfl, rfl⟩ := e
  exact ⟨fun _ => ⟨rfl, rfl⟩, fun id h => (hc id h).elim⟩
theorem fine_new {y : AV} {r : Row} {s : Option (Nat × Bool)} : Fine h (some (y, h ++ [r], s, .st h.length)) := fun _ _ _ _ e => by
  simp only [Option.some.injEq, Prod.mk.injEq] at e
  obtain ⟨rfl, rfl, rfl, rfl⟩ := e
  refine ⟨fun hc => (by cases hc), fun id hc j hj => ?_⟩
  injection hc with hc
  subst hc
  rcases Nat.lt_or_ge j h.length with hl | hl
  · rw [List.getElem?_append_left hl]
  · rw [List.getElem?_eq_none hl, List.getElem?_eq_none (by simp; omega)]
theorem fine_w {y : AV} {h' : Heap} {s : Option (Nat × Bool)} : Fine h (some (y, h', s, .w)) := fun _ _ _ _ e => by
  simp only [Option.some.injEq, Prod.mk.injEq] at e
  obtain ⟨rfl, rfl, rfl, rfl⟩ := e
  exact ⟨fun hc => (by cases hc), fun _ hc => (by cases hc)⟩
theorem fine_cond {b : Bool} {r r' : OpRes} (h1 : Fine h r) (h2 : Fine h r') : Fine h (bif b then r else r') := by
  cases b
  · exact h2
  · exact h1


theorem appendTo_fine {e : TypeId} {k : Nat} {s : AV} {xs : List AV} : Fine h (appendTo h e k s xs) := by
  unfold appendTo
  repeat' (first | exact fine_none | exact fine_new | exact fine_w | exact fine_same (fun _ h => by cases h) | apply fine_cond | split)

theorem appendE_fine {Z : List (TypeId × AV)} {ts : Array TypeId} {s x : AV} : Fine h (appendE P Z h ts s x) := by
  unfold appendE
  repeat' (first | exact fine_none | exact appendTo_fine | apply fine_cond | split)

theorem copyE_fine {ts : Array TypeId} {s x : AV} : Fine h (copyE P h ts s x) := by
  unfold copyE
  dsimp only
  repeat' (first | exact fine_none | exact fine_w | exact fine_same (fun _ h => by cases h) | apply fine_cond | split)

theorem copyS_fine {ts : Array TypeId} {s x : AV} : Fine h (copyS P h ts s x) := by
  unfold copyS
  dsimp only
  repeat' (first | exact fine_none | exact fine_w | exact fine_same (fun _ h => by cases h) | apply fine_cond | split)

theorem cpO_fine {a b : OpRes} (h1 : Fine h a) (h2 : Fine h b) : Fine h (cpO a b) := by
  cases a with
  | none => exact h2
  | some q => exact h1

theorem clearE_fine {E : Env} {ts : Array TypeId} {x : AV} : Fine h (clearE E h ts x) := by
  unfold clearE
  repeat' (first | exact fine_none | exact fine_w | exact fine_same (fun _ h => by cases h) | apply fine_cond | split)

theorem deleteE_fine {E : Env} {ts : Array TypeId} {m k : AV} : Fine h (deleteE E h ts m k) := by
  unfold deleteE
  repeat' (first | exact fine_none | exact fine_w | exact fine_same (fun _ h => by cases h) | apply fine_cond | split)

theorem lenE_fine {ts : Array TypeId} {x : AV} : Fine h (lenE P h ts x) := by
  unfold lenE
  repeat' (first | exact fine_none | exact fine_w | exact fine_same (fun _ h => by cases h) | apply fine_cond | split)

theorem capE_fine {ts : Array TypeId} {x : AV} : Fine h (capE P h ts x) := by
  unfold capE
  repeat' (first | exact fine_none | exact fine_w | exact fine_same (fun _ h => by cases h) | apply fine_cond | split)

theorem sliceDataE_fine {x : AV} : Fine h (sliceDataE h x) := by
  unfold sliceDataE
  repeat' (first | exact fine_none | exact fine_w | exact fine_same (fun _ h => by cases h) | apply fine_cond | split)

theorem unsafeStringE_fine {ts : Array TypeId} {x n : AV} : Fine h (unsafeStringE P h ts x n) := by
  unfold unsafeStringE
  repeat' (first | exact fine_none | exact fine_w | exact fine_same (fun _ h => by cases h) | apply fine_cond | split)

theorem builtinE_fine {E : Env} {b : Builtin} {ts : Array TypeId} {ty : TypeId} {args : List AV} : Fine h (builtinE E h b ts ty args) := by
  unfold builtinE
  dsimp only
  repeat' (first | exact appendE_fine | exact cpO_fine copyE_fine copyS_fine | exact lenE_fine | exact capE_fine | exact clearE_fine | exact deleteE_fine | exact sliceDataE_fine | exact unsafeStringE_fine | exact fine_none | exact fine_same (fun _ h => by cases h) | split)

/-- Those that leave a class of reading or none. -/
def Free (r r2 : OpRes) (h h2 : Heap) : Prop := ∀ y h' s c, r = some (y, h', s, c) → (c = .skip ∨ c = .pure ∨ ∃ i, c = .rd (some i)) → HeapSame c h h2 → r2 = some (y, h2, none, c)

def NR (r : OpRes) : Prop := ∀ y h' s c, r = some (y, h', s, c) → c = .quiet ∨ c = .w ∨ ∃ id, c = .st id
theorem nr_none : NR none := fun _ _ _ _ e => by cases e
theorem nr_q {y : AV} {h' : Heap} {s : Option (Nat × Bool)} : NR (some (y, h', s, .quiet)) := fun _ _ _ _ e => by
  simp only [Option.some.injEq, Prod.mk.injEq] at e
  exact .inl e.2.2.2.symm
theorem nr_w {y : AV} {h' : Heap} {s : Option (Nat × Bool)} : NR (some (y, h', s, .w)) := fun _ _ _ _ e => by
  simp only [Option.some.injEq, Prod.mk.injEq] at e
  exact .inr (.inl e.2.2.2.symm)
theorem nr_st {y : AV} {h' : Heap} {s : Option (Nat × Bool)} {id : Nat} : NR (some (y, h', s, .st id)) := fun _ _ _ _ e => by
  simp only [Option.some.injEq, Prod.mk.injEq] at e
  exact .inr (.inr ⟨id, e.2.2.2.symm⟩)
theorem nr_cond {b : Bool} {r r' : OpRes} (h1 : NR r) (h2 : NR r') : NR (bif b then r else r') := by
  cases b
  · exact h2
  · exact h1
theorem appendE_nr {Z : List (TypeId × AV)} {ts : Array TypeId} {s x : AV} : NR (appendE P Z h ts s x) := by
  unfold appendE appendTo
  repeat' (first | exact nr_none | exact nr_st | exact nr_w | exact nr_q | apply nr_cond | split)
theorem copyE_nr {ts : Array TypeId} {s x : AV} : NR (copyE P h ts s x) := by
  unfold copyE
  dsimp only
  repeat' (first | exact nr_none | exact nr_w | exact nr_q | apply nr_cond | split)
theorem copyS_nr {ts : Array TypeId} {s x : AV} : NR (copyS P h ts s x) := by
  unfold copyS
  dsimp only
  repeat' (first | exact nr_none | exact nr_w | exact nr_q | apply nr_cond | split)
theorem cpO_nr {a b : OpRes} (h1 : NR a) (h2 : NR b) : NR (cpO a b) := by
  cases a with
  | none => exact h2
  | some q => exact h1
theorem clearE_nr {E : Env} {ts : Array TypeId} {x : AV} : NR (clearE E h ts x) := by
  unfold clearE
  repeat' (first | exact nr_none | exact nr_w | exact nr_q | apply nr_cond | split)
theorem NR.free {r r2 : OpRes} {h h2 : Heap} (n : NR r) : Free r r2 h h2 := fun y h' s c e hc _ => by
  rcases n _ _ _ _ e with rfl | rfl | ⟨_, rfl⟩ <;> rcases hc with hc | hc | ⟨_, hc⟩ <;> cases hc
theorem free_cond {b : Bool} {r r' q q' : OpRes} {h hh : Heap} (h1 : Free r q h hh) (h2 : Free r' q' h hh) : Free (bif b then r else r') (bif b then q else q') h hh := by
  cases b
  · exact h2
  · exact h1
theorem free_none {r : OpRes} {h h2 : Heap} : Free none r h h2 := fun _ _ _ _ e => by cases e
theorem free_same {y : AV} {c : Cl} {h h2 : Heap} : Free (some (y, h, none, c)) (some (y, h2, none, c)) h h2 := fun _ _ _ _ e _ _ => by
  simp only [Option.some.injEq, Prod.mk.injEq] at e
  obtain ⟨rfl, rfl, rfl, rfl⟩ := e
  rfl

theorem lenE_free {ts : Array TypeId} {x : AV} {h h2 : Heap} : Free (lenE P h ts x) (lenE P h2 ts x) h h2 := by
  unfold lenE
  split
  · split
    · exact free_same
    · split
      · exact free_same
      · exact free_none
    · exact free_same
    · exact free_same
    · exact free_same
    · intro y h' s c ho hc hh
      split at ho
      · rename_i es cl hr
        simp only [Option.some.injEq, Prod.mk.injEq] at ho
        obtain ⟨rfl, rfl, rfl, rfl⟩ := ho
        rw [show h2[_]? = h[_]? from hh, hr]
      · cases ho
    · exact free_none
  · exact free_none

theorem capE_free {ts : Array TypeId} {x : AV} {h h2 : Heap} : Free (capE P h ts x) (capE P h2 ts x) h h2 := by
  unfold capE
  split
  · split
    · exact free_same
    · exact free_same
    · exact free_same
    · rename_i e id gen off len hu
      intro y h' s c ho hc hh
      split at ho
      · rename_i k g els ex hr
        cases hb : (Nat.beq g gen && ex.full) with
        | false => simp [hb] at ho
        | true =>
          simp only [hb, cond_true, Option.some.injEq, Prod.mk.injEq] at ho
          obtain ⟨rfl, rfl, rfl, rfl⟩ := ho
          rw [show h2[_]? = h[_]? from hh, hr]
          simp only [hb, cond_true]
      · cases ho
    · exact free_none
  · exact free_none

theorem deleteE_free {E : Env} {ts : Array TypeId} {m k : AV} {h h2 : Heap} : Free (deleteE E h ts m k) (deleteE E h2 ts m k) h h2 := by
  unfold deleteE
  split
  · split
    · intro y h' s c ho hc hh
      split at ho
      · rename_i es cl hr
        split at ho
        · simp only [Option.some.injEq, Prod.mk.injEq] at ho
          obtain ⟨rfl, rfl, rfl, rfl⟩ := ho
          rcases hc with hc | hc | ⟨_, hc⟩ <;> cases hc
        · rename_i hf
          simp only [Option.some.injEq, Prod.mk.injEq] at ho
          obtain ⟨rfl, rfl, rfl, rfl⟩ := ho
          rw [show h2[_]? = h[_]? from hh, hr]
          simp only [hf]
        · cases ho
      · cases ho
    · exact free_none
  · exact free_none

theorem sliceDataE_free {x : AV} {h h2 : Heap} : Free (sliceDataE h x) (sliceDataE h2 x) h h2 := by
  unfold sliceDataE
  split
  · exact free_same
  · intro y h' s c ho hc hh
    split at ho
    · rename_i gen off len _ k g els ex hr
      cases hb : (Nat.beq g gen && Nat.blt off els.length) with
      | false => simp [hb] at ho
      | true =>
        simp only [hb, cond_true, Option.some.injEq, Prod.mk.injEq] at ho
        obtain ⟨rfl, rfl, rfl, rfl⟩ := ho
        rw [show h2[_]? = h[_]? from hh, hr]
        simp only [hb, cond_true]
    · cases ho
  · exact free_none

theorem unsafeStringE_free {ts : Array TypeId} {x n : AV} {h h2 : Heap} : Free (unsafeStringE P h ts x n) (unsafeStringE P h2 ts x n) h h2 := by
  unfold unsafeStringE
  split
  · refine free_cond ?_ ?_
    · split
      · exact free_same
      · exact free_same
      · exact free_none
    · split
      · refine NR.free ?_
        repeat' (first | exact nr_none | exact nr_w | exact nr_q | apply nr_cond | split)
      · exact free_none
  · exact free_none

theorem builtinE_free {E : Env} {b : Builtin} {ts : Array TypeId} {ty : TypeId} {args : List AV} {h h2 : Heap} : Free (builtinE E h b ts ty args) (builtinE E h2 b ts ty args) h h2 := by
  unfold builtinE
  dsimp only
  split
  · exact appendE_nr.free
  · exact (cpO_nr copyE_nr copyS_nr).free
  · exact lenE_free
  · exact capE_free
  · exact clearE_nr.free
  · exact deleteE_free
  all_goals first | exact sliceDataE_free | exact unsafeStringE_free | exact free_none | (repeat' (first | exact free_none | exact free_same | split))

/-! ### One operation -/
/-- A row built is new. -/
theorem opE_new_out {E : Env} {f : FuncId} {o : Oper} {t : TypeId} {n : Nat} {ps : Array (Nat × Operand)} (hop : o.op = .buildSlice t n ps) {h' : Heap} {s : Option (Nat × Bool)} {id g off len : Nat} (ho : opE E f fr h o = some (.sl id g off len, h', s)) {j : Nat} (hj : j ≠ id) : h'[j]? = h[j]? := by
  unfold opE at ho
  rw [hop] at ho
  dsimp only at ho
  repeat' (split at ho)
  all_goals try (cases ho; done)
  rename_i l _
  generalize (Nat.ble _ 16777216 && Nat.ble 1 _) = b at ho
  cases b with
  | false => cases ho
  | true =>
    simp only [cond_true] at ho
    cases hr : E.rows f with
    | false => simp [hr] at ho
    | true =>
      simp only [hr, cond_true, Option.some.injEq, Prod.mk.injEq, AV.sl.injEq] at ho
      obtain ⟨⟨rfl, _⟩, rfl, _⟩ := ho
      simp only [AM.newRow]
      rcases Nat.lt_or_ge j h.length with hl | hl
      · rw [List.getElem?_append_left hl]
      · rw [List.getElem?_eq_none hl, List.getElem?_eq_none (by simp; omega)]

theorem coreO_calm {E : Env} {K : CallK} (hQ : QuietK K) {f : FuncId} {o : Oper} {x : Out} (ho : coreO E K f o fr h = some x) : Calm x h := by
  have out : ∀ {y : AV} {h' : Heap} {s : Option (Nat × Bool)} {c : Cl}, (noisy c = false → h' = h ∧ s = none) → (∀ id, c = .st id → ∀ j, j ≠ id → h'[j]? = h[j]?) → outOf y h' s c = x → Calm x h := by
    intro y h' s c g1 g2 e
    subst e
    refine ⟨fun hc => ?_, fun id hc => ?_⟩
    · have hc' : noisy c = false := by cases s <;> exact hc
      obtain ⟨rfl, rfl⟩ := g1 hc'
      exact ⟨rfl, rfl, rfl⟩
    · have hc' : c = .st id := by cases s <;> exact hc
      have := g2 id hc'
      cases s <;> exact this
  unfold coreO at ho
  split at ho
  · rename_i c hop
    split at ho
    · split at ho
      · split at ho
        · rename_i y h' s cl hb
          injection ho with ho
          obtain ⟨f1, f2⟩ := builtinE_fine _ _ _ _ hb
          exact out f1 f2 ho
        · cases ho
      · cases ho
    · split at ho
      · split at ho
        · rename_i y h' e hk
          injection ho with ho
          subst ho
          refine ⟨fun hc => ?_, fun id hc => ?_⟩
          · cases hq : e.q with
            | true => exact hQ _ _ _ _ _ _ hk hq
            | false => simp [hq, noisy] at hc
          · cases hq : e.q <;> simp [hq] at hc
        · cases ho
      · cases ho
  · split at ho
    · split at ho
      · injection ho with ho
        exact out (fun hc => by cases hc) (fun id hc => by cases hc) ho
      · cases ho
    · cases ho
  · split at ho
    · split at ho
      · injection ho with ho
        exact out (fun hc => by cases hc) (fun id hc => by cases hc) ho
      · cases ho
    · cases ho
  · split at ho
    · split at ho
      · injection ho with ho
        refine out (fun hc => ⟨rfl, rfl⟩) (fun id hc => ?_) ho
        split at hc <;> cases hc
      · cases ho
    · cases ho
  · rename_i t n ps hop
    split at ho
    · rename_i y h' s hp
      injection ho with ho
      refine out (fun hc => opE_free_out hp ?_) (fun id hc j hj => ?_) ho
      · unfold newCl at hc
        split at hc
        · cases hc
        · exact hc
      · unfold newCl at hc
        split at hc
        · rename_i c' id' g off len hcl
          injection hc with hc
          subst hc
          exact opE_new_out hop hp hj
        · exact opE_st_out hp hc j hj
    · cases ho
  · split at ho
    · rename_i y h' s hp
      injection ho with ho
      exact out (opE_free_out hp) (fun id hc => opE_st_out hp hc) ho
    · cases ho

theorem coreO_free {E : Env} {K : CallK} (hQ : QuietK K) {f : FuncId} {o : Oper} {x : Out} {h2 : Heap} (ho : coreO E K f o fr h = some x) (hc : noisy x.c = false) (hh : HeapSame x.c h h2) :
    coreO E K f o fr h2 = some { x with h := h2 } := by
  by_cases he : h2 = h
  · subst he
    rw [ho]
    obtain ⟨e, _⟩ := (coreO_calm hQ ho).quiet hc
    cases x
    simp only at e
    subst e
    rfl
  have hcl : ∀ c, HeapSame c h h2 → noisy c = false → c = .skip ∨ c = .pure ∨ ∃ i, c = .rd (some i) := by
    intro c g1 g2
    cases c with
    | skip => exact .inl rfl
    | pure => exact .inr (.inl rfl)
    | rd i => cases i with
      | none => exact (he g1).elim
      | some i => exact .inr (.inr ⟨i, rfl⟩)
    | quiet => exact (he g1).elim
    | st id => cases g2
    | w => cases g2
  have out : ∀ {y : AV} {h' : Heap} {s : Option (Nat × Bool)} {c : Cl}, outOf y h' s c = x → x.c = c := by
    intro y h' s c e
    subst e
    cases s <;> rfl
  obtain ⟨dst, op, type, pos, after, guard⟩ := o
  cases op
  case call c =>
    simp only [coreO] at ho ⊢
    split at ho
    · rename_i b hb
      split at ho
      · rename_i l hl
        split at ho
        · rename_i y h' s cl hbu
          injection ho with ho
          have ec := out ho
          rw [ec] at hc hh
          obtain ⟨f1, f2⟩ := builtinE_fine _ _ _ _ hbu
          obtain ⟨rfl, rfl⟩ := f1 hc
          have := builtinE_free (h2 := h2) _ _ _ _ hbu (hcl _ hh hc) hh
          rw [this]
          subst ho
          rfl
        · cases ho
      · cases ho
    · split at ho
      · split at ho
        · rename_i y h' e hk
          injection ho with ho
          subst ho
          exfalso
          cases hq : e.q with
          | true => simp only [hq, cond_true] at hh; exact he hh
          | false => simp [hq, noisy] at hc
        · cases ho
      · cases ho
  case mapUpdate t m k v =>
    simp only [coreO] at ho
    exfalso
    split at ho
    · split at ho
      · injection ho with ho
        rw [out ho] at hc
        cases hc
      · cases ho
    · cases ho
  case insert t m k v =>
    simp only [coreO] at ho
    exfalso
    split at ho
    · split at ho
      · injection ho with ho
        rw [out ho] at hc
        cases hc
      · cases ho
    · cases ho
  case lookup t m k ok =>
    simp only [coreO] at ho ⊢
    split at ho
    · rename_i m' k' e1 e2
      split at ho
      · rename_i y hy
        injection ho with ho
        have ec := out ho
        rw [ec] at hc hh
        have : lookupE E h2 t m' k' ok = lookupE E h t m' k' ok := by
          cases m' with
          | map id =>
            have hh : h2[id]? = h[id]? := hh
            unfold lookupE
            simp only [hh]
          | v z => cases z with
            | map q => cases q <;> simp only [lookupE]
            | _ => simp only [lookupE]
          | _ => simp only [lookupE]
        rw [this, hy]
        subst ho
        rfl
      · cases ho
    · cases ho
  case buildSlice t n ps =>
    simp only [coreO] at ho ⊢
    split at ho
    · rename_i y h' s hp
      injection ho with ho
      have ec := out ho
      rw [ec] at hc hh
      have hn : newCl y (clsOf E f ⟨dst, .buildSlice t n ps, type, pos, after, guard⟩ fr) = clsOf E f ⟨dst, .buildSlice t n ps, type, pos, after, guard⟩ fr := by
        cases hk : clsOf E f ⟨dst, .buildSlice t n ps, type, pos, after, guard⟩ fr with
        | w =>
          rw [hk] at hc
          cases y <;> cases hc
        | _ => rfl
      rw [hn] at hc hh
      obtain ⟨rfl, rfl⟩ := opE_free_out hp hc
      rw [opE_free hc hh, hp]
      subst ho
      rfl
    · cases ho
  all_goals
    simp only [coreO] at ho ⊢
    split at ho
    · rename_i y h' s hp
      injection ho with ho
      have ec := out ho
      rw [ec] at hc hh
      obtain ⟨rfl, rfl⟩ := opE_free_out hp hc
      rw [opE_free hc hh, hp]
      subst ho
      rfl
    · cases ho

end Go.AM

set_option linter.unusedVariables false
set_option linter.unusedSimpArgs false
namespace Go.AM
open Go

variable {F : Fz} {m : Mp} {fr : FR} {a : Act} {h : Heap} {w : World} {P : Program}

/-! ### What an order must keep -/
def edgesOf (o : Oper) : List Nat := (o.after.toList.filter (Region.binds .any)).map (·.on)
def bitsOf (acc : List Nat) (o : Oper) : Nat := (edgesOf o).foldl (fun b e => Nat.lor b (Nat.lor (2 ^ e) (acc.getD e 0))) 0
def reachL : List Oper → List Nat → List Nat
  | [], acc => acc
  | o :: os, acc => reachL os (acc ++ [bitsOf acc o])

def stat (o : Oper) : Nat := match o.op with
  | .move _ | .assign _ | .pick _ _ _ | .build _ _ | .nilCheck _ | .binOp _ _ _ _ _ | .unOp _ _ _ | .makeFunc _ _ _ | .fieldAddr _ _ _ | .field _ _ _ | .index _ _ _ | .extract _ _ => 0
  | .load _ _ | .lookup _ _ _ _ | .convert _ _ _ | .slice _ _ _ _ _ | .indexAddr _ _ _ => 1
  | .call c => match c.callee with
    | .builtin b => match b with
      | .len | .cap | .min | .max | .real | .imag | .complex => 1
      | _ => 2
    | _ => 2
  | _ => 2

def hasPair (i j : Nat) : List (Nat × Nat) → Bool
  | [] => false
  | (a, b) :: r => (Nat.beq a i && Nat.beq b j) || hasPair i j r

def pairOK (ops : Array Oper) (prs : List (Nat × Nat)) (i j : Nat) (x y : Oper) : Bool :=
  x.apart ops y && (Nat.beq (stat x) 0 || Nat.beq (stat y) 0 || (Nat.ble (stat x) 1 && Nat.ble (stat y) 1) || hasPair i j prs)

def rowOK (ops : Array Oper) (prs : List (Nat × Nat)) (b j : Nat) (y : Oper) : Nat → List Oper → Bool
  | _, [] => true
  | i, x :: l => (bif Nat.blt i j then (b.testBit i || pairOK ops prs i j x y) else true) && rowOK ops prs b j y (i + 1) l

def allOK (ops : Array Oper) (prs : List (Nat × Nat)) (R : List Nat) : Nat → List Oper → Bool
  | _, [] => true
  | j, y :: l => (edgesOf y).all (fun e => Nat.blt e j) && rowOK ops prs (R.getD j 0) j y 0 ops.toList && allOK ops prs R (j + 1) l

def drawOK (ops : Array Oper) (prs : List (Nat × Nat)) : Bool := allOK ops prs (reachL ops.toList []) 0 ops.toList

def Closed (ops : Array Oper) (S : Nat → Bool) : Prop := ∀ i o, ops[i]? = some o → S i = true → ∀ e ∈ edgesOf o, S e = true

theorem bits_foldl (acc : List Nat) (j : Nat) : ∀ (l : List Nat) (b : Nat), (l.foldl (fun b e => Nat.lor b (Nat.lor (2 ^ e) (acc.getD e 0))) b).testBit j = true →
    b.testBit j = true ∨ ∃ e ∈ l, j = e ∨ (acc.getD e 0).testBit j = true
  | [], b, h => .inl h
  | e :: l, b, h => by
    rw [List.foldl_cons] at h
    rcases bits_foldl acc j l _ h with h | ⟨e', h1, h2⟩
    · change (b ||| (2 ^ e ||| acc.getD e 0)).testBit j = true at h
      rw [Nat.testBit_or, Nat.testBit_or, Nat.testBit_two_pow] at h
      simp only [Bool.or_eq_true, decide_eq_true_eq] at h
      rcases h with h | h | h
      · exact .inl h
      · exact .inr ⟨e, by simp, .inl h.symm⟩
      · exact .inr ⟨e, by simp, .inr h⟩
    · exact .inr ⟨e', by simp [h1], h2⟩

def ReachInv (ops : Array Oper) (acc : List Nat) : Prop := ∀ (i b : Nat) (o : Oper), acc[i]? = some b → ops[i]? = some o → ∀ S, Closed ops S → (∀ e ∈ edgesOf o, S e = true) → ∀ j, b.testBit j = true → S j = true

theorem reachL_inv (ops : Array Oper) : ∀ (os : List Oper) (acc : List Nat), (∀ j, os[j]? = ops[acc.length + j]?) → acc.length ≤ ops.size → ReachInv ops acc → ReachInv ops (reachL os acc)
  | [], acc, _, _, h => h
  | o :: os, acc, ho, hs, h => by
    have h0 : ops[acc.length]? = some o := by have := ho 0; simpa using this.symm
    refine reachL_inv ops os _ (fun j => ?_) ?_ ?_
    · have := ho (j + 1)
      rw [List.getElem?_cons_succ] at this
      rw [this]
      simp only [List.length_append, List.length_singleton]
      congr 1
      omega
    · have := (Array.getElem?_eq_some_iff.1 h0).1
      simp only [List.length_append, List.length_singleton]
      omega
    · intro i b o' hb ho' S hS he j hj
      rcases Nat.lt_or_ge i acc.length with hi | hi
      · rw [List.getElem?_append_left hi] at hb
        exact h i b o' hb ho' S hS he j hj
      · rw [List.getElem?_append_right hi] at hb
        have hi0 : i - acc.length = 0 := by
          rcases Nat.eq_zero_or_pos (i - acc.length) with h | h
          · exact h
          · rw [List.getElem?_eq_none (by simp; omega)] at hb; cases hb
        have : i = acc.length := by omega
        subst this
        rw [h0] at ho'
        injection ho' with ho'
        subst ho'
        rw [hi0] at hb
        simp only [List.getElem?_cons_zero, Option.some.injEq] at hb
        subst hb
        rcases bits_foldl acc j _ _ hj with hz | ⟨e, e1, e2⟩
        · simp at hz
        · have se := he e e1
          rcases e2 with rfl | e2
          · exact se
          · cases hg : acc[e]? with
            | none => rw [List.getD_eq_getElem?_getD, hg] at e2; simp at e2
            | some b' =>
              rw [List.getD_eq_getElem?_getD, hg] at e2
              have hlt : e < acc.length := (List.getElem?_eq_some_iff.1 hg).1
              have hoe : ops[e]? = some ops[e] := Array.getElem?_eq_getElem (by omega)
              exact h e b' _ hg hoe S hS (hS e _ hoe se) j e2

theorem reachL_len : ∀ (os : List Oper) (acc : List Nat), (reachL os acc).length = acc.length + os.length
  | [], acc => rfl
  | o :: os, acc => by simp [reachL, reachL_len os]; omega

theorem rowOK_spec {ops : Array Oper} {prs : List (Nat × Nat)} {b j : Nat} {y : Oper} : ∀ (l : List Oper) (i0 : Nat), rowOK ops prs b j y i0 l = true → ∀ k x, l[k]? = some x → i0 + k < j → b.testBit (i0 + k) = true ∨ pairOK ops prs (i0 + k) j x y = true
  | [], _, _, k, x, hx, _ => by simp at hx
  | z :: l, i0, h, k, x, hx, hlt => by
    simp only [rowOK, Bool.and_eq_true] at h
    cases k with
    | zero =>
      simp only [List.getElem?_cons_zero, Option.some.injEq] at hx
      subst hx
      have hb : Nat.blt i0 j = true := by simpa [Nat.blt_eq] using hlt
      have := h.1
      rw [hb] at this
      simpa using this
    | succ k =>
      rw [List.getElem?_cons_succ] at hx
      have := rowOK_spec l (i0 + 1) h.2 k x hx (by omega)
      rw [show i0 + (k + 1) = i0 + 1 + k by omega]
      exact this

theorem allOK_spec {ops : Array Oper} {prs : List (Nat × Nat)} {R : List Nat} : ∀ (l : List Oper) (j0 : Nat), allOK ops prs R j0 l = true → ∀ k y, l[k]? = some y →
    (∀ e ∈ edgesOf y, e < j0 + k) ∧ rowOK ops prs (R.getD (j0 + k) 0) (j0 + k) y 0 ops.toList = true
  | [], _, _, k, x, hx => by simp at hx
  | z :: l, j0, h, k, y, hy => by
    simp only [allOK, Bool.and_eq_true] at h
    cases k with
    | zero =>
      simp only [List.getElem?_cons_zero, Option.some.injEq] at hy
      subst hy
      refine ⟨fun e he => ?_, h.1.2⟩
      have := List.all_eq_true.1 h.1.1 e he
      simpa [Nat.blt_eq] using this
    | succ k =>
      rw [List.getElem?_cons_succ] at hy
      have := allOK_spec l (j0 + 1) h.2 k y hy
      rw [show j0 + (k + 1) = j0 + 1 + k by omega]
      exact this

/-- What the check gives. -/
theorem drawOK_spec {ops : Array Oper} {prs : List (Nat × Nat)} (h : drawOK ops prs = true) {j : Nat} {y : Oper} (hy : ops[j]? = some y) :
    (∀ e ∈ edgesOf y, e < j) ∧ ∀ i x, ops[i]? = some x → i < j → pairOK ops prs i j x y = true ∨ ∀ S, Closed ops S → (∀ e ∈ edgesOf y, S e = true) → S i = true := by
  have hy' : ops.toList[j]? = some y := by simpa using hy
  obtain ⟨h1, h2⟩ := allOK_spec ops.toList 0 h j y hy'
  rw [Nat.zero_add] at h1 h2
  refine ⟨h1, fun i x hx hlt => ?_⟩
  have hx' : ops.toList[i]? = some x := by simpa using hx
  have := rowOK_spec ops.toList 0 h2 i x hx' (by omega)
  rw [Nat.zero_add] at this
  rcases this with h | h
  · right
    intro S hS he
    have hj : j < (reachL ops.toList []).length := by rw [reachL_len]; have := (Array.getElem?_eq_some_iff.1 hy).1; simpa using this
    have hg : (reachL ops.toList [])[j]? = some ((reachL ops.toList []).getD j 0) := by
      rw [List.getD_eq_getElem?_getD, List.getElem?_eq_getElem hj]; rfl
    exact reachL_inv ops ops.toList [] (fun k => by simp) (by simp) (fun i b o hb => by simp at hb) j _ y hg hy S hS he i h
  · exact .inl h

end Go.AM

set_option linter.unusedVariables false
set_option linter.unusedSimpArgs false
namespace Go.AM
open Go

variable {F : Fz} {m : Mp} {fr : FR} {a : Act} {h : Heap} {w : World} {P : Program}

def core (st : St) : Heap × List Nat × List Nat := (st.h, st.ds, st.ls)

theorem putF_get {nt : Nat} {fr fr' : FR} {dst : Option Tmp} {y : AV} (hp : putF nt fr dst y = some fr') (t : Nat) : get fr' t = if dst = some t then some y else get fr t := by
  cases dst with
  | none =>
    simp only [putF, Option.some.injEq] at hp
    subst hp
    simp
  | some d =>
    simp only [putF] at hp
    cases hb : Nat.blt d nt with
    | false => simp [hb] at hp
    | true =>
      simp only [hb, cond_true, Option.some.injEq] at hp
      subst hp
      simp only [get]
      by_cases hd : d = t
      · subst hd; simp
      · have : Nat.beq d t = false := by
          cases hn : Nat.beq d t with
          | false => rfl
          | true => exact (hd (Nat.eq_of_beq_eq_true hn)).elim
        simp [this, hd]

theorem putF_other {nt : Nat} {fr fr2 fr' : FR} {dst : Option Tmp} {y : AV} (hp : putF nt fr dst y = some fr') : ∃ fr2', putF nt fr2 dst y = some fr2' := by
  cases dst with
  | none => exact ⟨fr2, rfl⟩
  | some d =>
    simp only [putF] at hp ⊢
    cases hb : Nat.blt d nt with
    | false => simp [hb] at hp
    | true => exact ⟨_, rfl⟩

theorem wantedE_congr {ops : Array Oper} {o : Oper} {fr fr2 : FR} (hl : ∀ t ∈ o.looksAt ops, get fr2 t = get fr t) : wantedE ops fr2 o = wantedE ops fr o := by
  unfold wantedE
  split
  · rfl
  · rename_i j want hg
    split
    · rename_i d hd
      rw [hl d (by simp [Oper.looksAt, hg, hd])]
    · rfl

theorem agree_of_looks {ops : Array Oper} {o : Oper} {fr fr2 : FR} (hl : ∀ t ∈ o.looksAt ops, get fr2 t = get fr t) : Agree o.op.operands fr fr2 := by
  intro x hx
  cases x with
  | tmp t => exact hl t (List.mem_append_left _ (List.mem_filterMap.2 ⟨.tmp t, by simpa using hx, rfl⟩))
  | _ => rfl

section
variable {E : Env} {K : CallK} {f : FuncId} {nt n0 : Nat} {ops : Array Oper} {o : Oper} {st st' st2 : St} {c : Cl}

theorem stepO_get (hs : stepO E K f nt n0 ops o st = some (st', c)) (t : Nat) (ht : o.dst ≠ some t) : get st'.fr t = get st.fr t := by
  unfold stepO at hs
  split at hs
  · split at hs
    · rename_i fr' hp
      simp only [Option.some.injEq, Prod.mk.injEq] at hs
      obtain ⟨rfl, rfl⟩ := hs
      rw [putF_get hp]
      simp [ht]
    · cases hs
  · split at hs
    · split at hs
      · rename_i fr' hp
        simp only [Option.some.injEq, Prod.mk.injEq] at hs
        obtain ⟨rfl, rfl⟩ := hs
        rw [putF_get hp]
        simp [ht]
      · cases hs
    · cases hs
  · cases hs

theorem stepO_calm (hQ : QuietK K) (hs : stepO E K f nt n0 ops o st = some (st', c)) : (noisy c = false → core st' = core st) ∧ ∀ id, c = .st id → ∀ j, j ≠ id → st'.h[j]? = st.h[j]? := by
  unfold stepO at hs
  split at hs
  · split at hs
    · simp only [Option.some.injEq, Prod.mk.injEq] at hs
      obtain ⟨rfl, rfl⟩ := hs
      exact ⟨fun _ => rfl, fun id hc => by cases hc⟩
    · cases hs
  · split at hs
    · rename_i x hx
      have cm := coreO_calm hQ hx
      split at hs
      · simp only [Option.some.injEq, Prod.mk.injEq] at hs
        obtain ⟨rfl, rfl⟩ := hs
        refine ⟨fun hc => ?_, cm.st⟩
        obtain ⟨e1, e2, e3⟩ := cm.quiet hc
        simp [core, e1, e2, e3, mergeLt]
      · cases hs
    · cases hs
  · cases hs

theorem stepO_free (hQ : QuietK K) (hs : stepO E K f nt n0 ops o st = some (st', c)) (hl : ∀ t ∈ o.looksAt ops, get st2.fr t = get st.fr t) (hh : HeapSame c st.h st2.h) (hn : noisy c = true → core st2 = core st) :
    ∃ st3, stepO E K f nt n0 ops o st2 = some (st3, c) ∧ (∀ t, get st3.fr t = if o.dst = some t then get st'.fr t else get st2.fr t) ∧ core st3 = if noisy c = true then core st' else core st2 := by
  unfold stepO at hs ⊢
  rw [wantedE_congr hl]
  split at hs
  · rename_i hw
    split at hs
    · rename_i fr' hp
      simp only [Option.some.injEq, Prod.mk.injEq] at hs
      obtain ⟨rfl, rfl⟩ := hs
      obtain ⟨fr2', hp2⟩ := putF_other (fr2 := st2.fr) hp
      simp only [hp2]
      refine ⟨_, rfl, fun t => ?_, by simp [core, noisy]⟩
      rw [putF_get hp2, putF_get hp]
      split <;> rfl
    · cases hs
  · rename_i hw
    split at hs
    · rename_i x hx
      have cm := coreO_calm hQ hx
      split at hs
      · rename_i fr' hp
        simp only [Option.some.injEq, Prod.mk.injEq] at hs
        obtain ⟨rfl, rfl⟩ := hs
        obtain ⟨fr2', hp2⟩ := putF_other (fr2 := st2.fr) hp
        have hg : ∀ t, get fr2' t = if o.dst = some t then get fr' t else get st2.fr t := fun t => by
          rw [putF_get hp2, putF_get hp]
          split <;> rfl
        have ha := coreO_congr E K f st2.h o (agree_of_looks hl)
        cases hc : noisy x.c with
        | false =>
          rw [ha, coreO_free hQ hx hc hh]
          simp only [hp2]
          obtain ⟨e1, e2, e3⟩ := cm.quiet hc
          exact ⟨_, rfl, hg, by simp [core, e2, e3, mergeLt]⟩
        | true =>
          have e := hn hc
          simp only [core, Prod.mk.injEq] at e
          rw [ha, e.1, hx]
          simp only [hp2]
          exact ⟨_, rfl, hg, by simp [core, e.2]⟩
      · cases hs
    · cases hs
  · cases hs

/-! ### The classes -/
theorem outOf_c {y : AV} {h' : Heap} {s : Option (Nat × Bool)} {c : Cl} {x : Out} (e : outOf y h' s c = x) : x.c = c := by
  subst e
  cases s <;> rfl

def Rd (r : OpRes) : Prop := ∀ y h' s c, r = some (y, h', s, c) → c = .pure ∨ ∃ i, c = .rd i
theorem rd_none : Rd none := fun _ _ _ _ e => by cases e
theorem rd_p {y : AV} {h' : Heap} {s : Option (Nat × Bool)} : Rd (some (y, h', s, .pure)) := fun _ _ _ _ e => by
  simp only [Option.some.injEq, Prod.mk.injEq] at e
  exact .inl e.2.2.2.symm
theorem rd_r {y : AV} {h' : Heap} {s : Option (Nat × Bool)} {i : Option Nat} : Rd (some (y, h', s, .rd i)) := fun _ _ _ _ e => by
  simp only [Option.some.injEq, Prod.mk.injEq] at e
  exact .inr ⟨i, e.2.2.2.symm⟩
theorem rd_cond {b : Bool} {r r' : OpRes} (h1 : Rd r) (h2 : Rd r') : Rd (bif b then r else r') := by
  cases b
  · exact h2
  · exact h1

theorem builtinE_rd {E : Env} {b : Builtin} {ts : Array TypeId} {ty : TypeId} {args : List AV} (hb : b = .len ∨ b = .cap ∨ b = .min ∨ b = .max ∨ b = .real ∨ b = .imag ∨ b = .complex) : Rd (builtinE E h b ts ty args) := by
  rcases hb with rfl | rfl | rfl | rfl | rfl | rfl | rfl <;> unfold builtinE <;> dsimp only <;> (try unfold lenE capE) <;>
    repeat' (first | exact rd_none | exact rd_p | exact rd_r | apply rd_cond | contradiction | split)

theorem stat0 (hs : stepO E K f nt n0 ops o st = some (st', c)) (h0 : stat o = 0) : c = .skip ∨ c = .pure := by
  unfold stepO at hs
  split at hs
  · split at hs
    · simp only [Option.some.injEq, Prod.mk.injEq] at hs
      exact .inl hs.2.symm
    · cases hs
  · split at hs
    · rename_i x hx
      split at hs
      · simp only [Option.some.injEq, Prod.mk.injEq] at hs
        obtain ⟨_, rfl⟩ := hs
        right
        obtain ⟨dst, op, type, pos, after, guard⟩ := o
        cases op <;> simp only [stat] at h0 <;> try (exact absurd h0 (by decide))
        case call c =>
          split at h0
          · split at h0 <;> exact absurd h0 (by decide)
          · exact absurd h0 (by decide)
        all_goals
          simp only [coreO, clsOf] at hx
          split at hx
          · injection hx with hx
            exact outOf_c hx
          · cases hx
      · cases hs
    · cases hs
  · cases hs

theorem stat1 (hs : stepO E K f nt n0 ops o st = some (st', c)) (h0 : stat o = 1) : c = .skip ∨ c = .pure ∨ ∃ i, c = .rd i := by
  unfold stepO at hs
  split at hs
  · split at hs
    · simp only [Option.some.injEq, Prod.mk.injEq] at hs
      exact .inl hs.2.symm
    · cases hs
  · split at hs
    · rename_i x hx
      split at hs
      · simp only [Option.some.injEq, Prod.mk.injEq] at hs
        obtain ⟨_, rfl⟩ := hs
        right
        obtain ⟨dst, op, type, pos, after, guard⟩ := o
        cases op <;> simp only [stat] at h0 <;> try (exact absurd h0 (by decide))
        case call c =>
          split at h0
          · rename_i b hb
            simp only [coreO, hb] at hx
            split at hx
            · split at hx
              · rename_i y h' s cl hbu
                injection hx with hx
                rw [outOf_c hx]
                refine builtinE_rd ?_ _ _ _ _ hbu
                split at h0
                all_goals first | (exact absurd h0 (by decide)) | simp
              · cases hx
            · cases hx
          · exact absurd h0 (by decide)
        case lookup t m k ok =>
          simp only [coreO] at hx
          split at hx
          · split at hx
            · injection hx with hx
              rw [outOf_c hx]
              split
              · exact .inr ⟨_, rfl⟩
              · exact .inl rfl
            · cases hx
          · cases hx
        all_goals
          simp only [coreO, clsOf] at hx
          split at hx
          · injection hx with hx
            rw [outOf_c hx]
            split
            all_goals first | exact .inl rfl | exact .inr ⟨_, rfl⟩
          · cases hx
      · cases hs
    · cases hs
  · cases hs

theorem compat_symm (a b : Cl) : compat a b = compat b a := by
  cases a <;> cases b <;> (try rfl) <;> (rename_i x y; first | (cases x <;> rfl) | (cases y <;> rfl))

theorem compat_of {c d : Cl} (h : (c = .skip ∨ c = .pure) ∨ (d = .skip ∨ d = .pure) ∨ ((c = .skip ∨ c = .pure ∨ ∃ i, c = .rd i) ∧ (d = .skip ∨ d = .pure ∨ ∃ i, d = .rd i))) : compat c d = true := by
  rcases h with (rfl | rfl) | (rfl | rfl) | ⟨rfl | rfl | ⟨i, rfl⟩, rfl | rfl | ⟨j, rfl⟩⟩ <;> (try rfl) <;> (try (cases c <;> rfl)) <;> (try (cases d <;> rfl))
end

/-! ### The run in the text's order -/
structure Trace (E : Env) (K : CallK) (f : FuncId) (nt n0 : Nat) (ops : Array Oper) (T : Nat → St) (C : Nat → Cl) : Prop where
  step : ∀ i o, ops[i]? = some o → stepO E K f nt n0 ops o (T i) = some (T (i + 1), C i)

theorem runOps_trace {E : Env} {K : CallK} {f : FuncId} {nt n0 : Nat} {ops : Array Oper} {st' : St} {cs' : List Cl} : ∀ (os : List Oper) (st : St) (cs : List Cl), runOps E K f nt n0 ops os st cs = some (st', cs') →
    ∃ (T : Nat → St) (C : Nat → Cl) (l : List Cl), T 0 = st ∧ T os.length = st' ∧ (∀ i o, os[i]? = some o → stepO E K f nt n0 ops o (T i) = some (T (i + 1), C i)) ∧ cs' = l.reverse ++ cs ∧ l.length = os.length ∧ ∀ i, i < os.length → l[i]? = some (C i)
  | [], st, cs, h => by
    simp only [runOps, Option.some.injEq, Prod.mk.injEq] at h
    obtain ⟨rfl, rfl⟩ := h
    exact ⟨fun _ => st, fun _ => .skip, [], rfl, rfl, fun i o h => by simp at h, rfl, rfl, fun i h => by simp at h⟩
  | o :: os, st, cs, h => by
    simp only [runOps] at h
    split at h
    · rename_i st1 c hs
      obtain ⟨T, C, l, h1, h2, h3, h4, h5, h6⟩ := runOps_trace os st1 (c :: cs) h
      refine ⟨fun | 0 => st | i + 1 => T i, fun | 0 => c | i + 1 => C i, c :: l, rfl, h2, ?_, by simp [h4], by simp [h5], ?_⟩
      · intro i o' ho
        cases i with
        | zero =>
          simp only [List.getElem?_cons_zero, Option.some.injEq] at ho
          subst ho
          rw [hs, ← h1]
        | succ i => exact h3 i o' (by simpa using ho)
      · intro i hi
        cases i with
        | zero => rfl
        | succ i => simpa using h6 i (by simpa using hi)
    · cases h

theorem pairsOK_spec {cs : List Cl} {i j : Nat} {a b : Cl} : ∀ (l : List (Nat × Nat)), pairsOK cs l = true → hasPair i j l = true → cs[cs.length - 1 - i]? = some a → cs[cs.length - 1 - j]? = some b → compat a b = true
  | [], _, h, _, _ => by simp [hasPair] at h
  | (x, y) :: l, h, hp, ha, hb => by
    simp only [pairsOK, Bool.and_eq_true] at h
    simp only [hasPair, Bool.or_eq_true, Bool.and_eq_true] at hp
    rcases hp with ⟨h1, h2⟩ | hp
    · have e1 := Nat.eq_of_beq_eq_true h1
      have e2 := Nat.eq_of_beq_eq_true h2
      subst e1; subst e2
      have := h.1
      rw [ha, hb] at this
      exact this
    · exact pairsOK_spec l h.2 hp ha hb

end Go.AM

set_option linter.unusedVariables false
set_option linter.unusedSimpArgs false
namespace Go.AM
open Go

variable {F : Fz} {m : Mp} {fr : FR} {a : Act} {h : Heap} {w : World} {P : Program}

def cnt (S : Nat → Bool) : Nat → Nat
  | 0 => 0
  | k + 1 => cnt S k + (bif S k then 0 else 1)

theorem cnt_eq {S S' : Nat → Bool} {i : Nat} (hs : ∀ j, j ≠ i → S' j = S j) : ∀ n, n ≤ i → cnt S' n = cnt S n
  | 0, _ => rfl
  | n + 1, h => by simp only [cnt]; rw [cnt_eq hs n (by omega), hs n (by omega)]

theorem cnt_set {S S' : Nat → Bool} {i : Nat} (h0 : S i = false) (h1 : S' i = true) (hs : ∀ j, j ≠ i → S' j = S j) : ∀ n, i < n → cnt S' n + 1 = cnt S n
  | 0, h => by omega
  | n + 1, h => by
    simp only [cnt]
    by_cases e : n = i
    · subst e
      rw [cnt_eq hs n (Nat.le_refl _), h0, h1]
      simp
    · have := cnt_set h0 h1 hs n (by omega)
      rw [hs n e]
      omega

theorem cnt_zero {S : Nat → Bool} : ∀ n, cnt S n = 0 → ∀ j, j < n → S j = true
  | 0, _, j, hj => by omega
  | n + 1, h, j, hj => by
    simp only [cnt] at h
    have h2 : S n = true := by cases hn : S n <;> simp [hn] at h ⊢
    rcases Nat.lt_or_ge j n with hj' | hj'
    · exact cnt_zero n (by omega) j hj'
    · have : j = n := by omega
      subst this; exact h2

section
variable {E : Env} {K : CallK} {f : FuncId} {nt n0 : Nat} {ops : Array Oper} {T : Nat → St} {C : Nat → Cl} {S S' : Nat → Bool} {st2 : St} {t : Nat}

def valS (ops : Array Oper) (T : Nat → St) (S : Nat → Bool) (t : Nat) : Nat → Option AV
  | 0 => get (T 0).fr t
  | i + 1 => bif S i && ((ops[i]?).bind (·.dst) == some t) then get (T (i + 1)).fr t else valS ops T S t i

theorem valS_text (tr : Trace E K f nt n0 ops T C) : ∀ i, i ≤ ops.size → (∀ j, j < i → (ops[j]?).bind (·.dst) = some t → S j = true) → valS ops T S t i = get (T i).fr t
  | 0, _, _ => rfl
  | i + 1, hi, h => by
    simp only [valS]
    have ho : ops[i]? = some ops[i] := Array.getElem?_eq_getElem (by omega)
    cases hd : ((ops[i]?).bind (·.dst) == some t) with
    | true =>
      rw [h i (by omega) (by simpa using hd)]
      rfl
    | false =>
      rw [Bool.and_false, cond_false, valS_text tr i (by omega) fun j hj => h j (by omega)]
      refine (stepO_get (tr.step i _ ho) t ?_).symm
      intro e
      rw [ho] at hd
      simp [e] at hd

theorem valS_skip : ∀ k i, (∀ j, i ≤ j → j < i + k → S j = true → (ops[j]?).bind (·.dst) ≠ some t) → valS ops T S t (i + k) = valS ops T S t i
  | 0, i, _ => rfl
  | k + 1, i, h => by
    rw [← Nat.add_assoc]
    simp only [valS]
    have : (S (i + k) && ((ops[i + k]?).bind (·.dst) == some t)) = false := by
      cases hS : S (i + k) with
      | false => rfl
      | true =>
        have := h (i + k) (by omega) (by omega) hS
        simpa using this
    rw [this, cond_false]
    exact valS_skip k i fun j h1 h2 => h j h1 (by omega)

theorem valS_skip' {i n : Nat} (hin : i ≤ n) (h : ∀ j, i ≤ j → j < n → S j = true → (ops[j]?).bind (·.dst) ≠ some t) : valS ops T S t n = valS ops T S t i := by
  have := valS_skip (ops := ops) (T := T) (S := S) (t := t) (n - i) i fun j h1 h2 => h j h1 (by omega)
  rwa [show i + (n - i) = n by omega] at this

theorem valS_congr : ∀ i, (∀ j, j < i → (ops[j]?).bind (·.dst) = some t → S' j = S j) → valS ops T S' t i = valS ops T S t i
  | 0, _ => rfl
  | i + 1, h => by
    simp only [valS]
    rw [valS_congr i fun j hj => h j (by omega)]
    cases hd : ((ops[i]?).bind (·.dst) == some t) with
    | true => rw [h i (by omega) (by simpa using hd)]
    | false => simp

theorem chain_core (hQ : QuietK K) (tr : Trace E K f nt n0 ops T C) : ∀ k i, i + k ≤ ops.size → (∀ j, i ≤ j → j < i + k → noisy (C j) = false) → core (T (i + k)) = core (T i)
  | 0, i, _, _ => rfl
  | k + 1, i, hk, h => by
    have ho : ops[i + k]? = some ops[i + k] := Array.getElem?_eq_getElem (by omega)
    rw [← Nat.add_assoc, (stepO_calm hQ (tr.step _ _ ho)).1 (h _ (by omega) (by omega))]
    exact chain_core hQ tr k i (by omega) fun j h1 h2 => h j h1 (by omega)

theorem chain_row (hQ : QuietK K) (tr : Trace E K f nt n0 ops T C) {id : Nat} : ∀ k i, i + k ≤ ops.size → (∀ j, i ≤ j → j < i + k → noisy (C j) = true → ∃ q, C j = .st q ∧ id ≠ q) → (T (i + k)).h[id]? = (T i).h[id]?
  | 0, i, _, _ => rfl
  | k + 1, i, hk, h => by
    have ho : ops[i + k]? = some ops[i + k] := Array.getElem?_eq_getElem (by omega)
    have hst : (T (i + k + 1)).h[id]? = (T (i + k)).h[id]? := by
      cases hn : noisy (C (i + k)) with
      | false =>
        have := (stepO_calm hQ (tr.step _ _ ho)).1 hn
        simp only [core, Prod.mk.injEq] at this
        rw [this.1]
      | true =>
        obtain ⟨q, q1, q2⟩ := h _ (by omega) (by omega) hn
        exact (stepO_calm hQ (tr.step _ _ ho)).2 q q1 id q2
    rw [← Nat.add_assoc, hst]
    exact chain_row hQ tr k i (by omega) fun j h1 h2 => h j h1 (by omega)

structure DInv (ops : Array Oper) (T : Nat → St) (C : Nat → Cl) (S : Nat → Bool) (st2 : St) : Prop where
  val : ∀ t, get st2.fr t = valS ops T S t ops.size
  mem : ∃ p, p ≤ ops.size ∧ core st2 = core (T p) ∧ ∀ j, j < ops.size → noisy (C j) = true → (S j = true ↔ j < p)
  closed : Closed ops S

/-- What stands beside an operation that may come next. -/
theorem beside {prs : List (Nat × Nat)} (hd : drawOK ops prs = true) (hc : ∀ i j x y, ops[i]? = some x → ops[j]? = some y → i < j → pairOK ops prs i j x y = true → compat (C i) (C j) = true)
    (cl : Closed ops S) {i : Nat} {o : Oper} (ho : ops[i]? = some o) (h0 : S i = false) (he : ∀ e ∈ edgesOf o, S e = true) {j : Nat} {y : Oper} (hy : ops[j]? = some y) (hj : (j < i ∧ S j = false) ∨ (i < j ∧ S j = true)) :
    compat (C i) (C j) = true ∧ (∀ d, y.dst = some d → d ∉ o.looksAt ops) ∧ (∀ d, o.dst = some d → y.dst ≠ some d) := by
  rcases hj with ⟨hlt, hS⟩ | ⟨hlt, hS⟩
  · rcases (drawOK_spec hd ho).2 j y hy hlt with h | h
    · have hcp := hc j i y o hy ho hlt h
      simp only [pairOK, Bool.and_eq_true] at h
      obtain ⟨g1, g2, g3⟩ := Oper.apart_spec h.1
      exact ⟨by rw [compat_symm]; exact hcp, g1, fun d hd hd' => g2 d hd' hd⟩
    · rw [h S cl he] at hS
      cases hS
  · rcases (drawOK_spec hd hy).2 i o ho hlt with h | h
    · have hcp := hc i j o y ho hy hlt h
      simp only [pairOK, Bool.and_eq_true] at h
      obtain ⟨g1, g2, g3⟩ := Oper.apart_spec h.1
      exact ⟨hcp, g3, g2⟩
    · rw [h S cl (cl j y hy hS)] at h0
      cases h0

theorem compat_loud {c d : Cl} (h : compat c d = true) (hd : noisy d = true) : c = .skip ∨ c = .pure ∨ ∃ i q, c = .rd (some i) ∧ d = .st q ∧ i ≠ q := by
  cases d <;> simp [noisy] at hd
  · rename_i q
    cases c with
    | skip => exact .inl rfl
    | pure => exact .inr (.inl rfl)
    | rd i => cases i with
      | none => simp [compat] at h
      | some i =>
        refine .inr (.inr ⟨i, q, rfl, rfl, fun e => ?_⟩)
        subst e
        simp [compat] at h
    | st => simp [compat] at h
    | quiet => simp [compat] at h
    | w => simp [compat] at h
  · cases c <;> simp [compat] at h ⊢

/-- One operation more. -/
theorem DInv.next (hQ : QuietK K) (tr : Trace E K f nt n0 ops T C) {prs : List (Nat × Nat)} (hd : drawOK ops prs = true)
    (hc : ∀ i j x y, ops[i]? = some x → ops[j]? = some y → i < j → pairOK ops prs i j x y = true → compat (C i) (C j) = true)
    (inv : DInv ops T C S st2) {i : Nat} {o : Oper} (ho : ops[i]? = some o) (h0 : S i = false) (he : ∀ e ∈ edgesOf o, S e = true)
    (h1 : S' i = true) (hs : ∀ j, j ≠ i → S' j = S j) :
    ∃ st3, stepO E K f nt n0 ops o st2 = some (st3, C i) ∧ DInv ops T C S' st3 := by
  have hi : i < ops.size := (Array.getElem?_eq_some_iff.1 ho).1
  have bs : ∀ j, j < ops.size → (j < i ∧ S j = false) ∨ (i < j ∧ S j = true) → compat (C i) (C j) = true ∧ (∀ d, (ops[j]?).bind (·.dst) = some d → d ∉ o.looksAt ops) ∧ (∀ d, o.dst = some d → (ops[j]?).bind (·.dst) ≠ some d) := by
    intro j hj hh
    have hy : ops[j]? = some ops[j] := Array.getElem?_eq_getElem hj
    obtain ⟨g1, g2, g3⟩ := beside hd hc inv.closed ho h0 he hy hh
    rw [hy]
    exact ⟨g1, g2, g3⟩
  -- what it looks at
  have hl : ∀ t ∈ o.looksAt ops, get st2.fr t = get (T i).fr t := by
    intro t ht
    rw [inv.val t, valS_skip' (i := i) (by omega)]
    · refine valS_text tr i (by omega) fun j hj hdj => ?_
      cases hS : S j with
      | true => rfl
      | false => exact ((bs j (by omega) (.inl ⟨hj, hS⟩)).2.1 t hdj ht).elim
    · intro j h1 h2 hS hdj
      rcases Nat.eq_or_lt_of_le h1 with e | hlt
      · subst e; rw [h0] at hS; cases hS
      · exact (bs j h2 (.inr ⟨hlt, hS⟩)).2.1 t hdj ht
  obtain ⟨p, p1, p2, p3⟩ := inv.mem
  -- the noisy ones between
  have btw : ∀ j, j < ops.size → noisy (C j) = true → (p ≤ j ∧ j < i) ∨ (i ≤ j ∧ j < p) → compat (C i) (C j) = true := by
    intro j hj hn hh
    rcases hh with ⟨g1, g2⟩ | ⟨g1, g2⟩
    · refine (bs j hj (.inl ⟨g2, ?_⟩)).1
      cases hS : S j with
      | false => rfl
      | true => have := (p3 j hj hn).1 hS; omega
    · have hS := (p3 j hj hn).2 g2
      refine (bs j hj (.inr ⟨?_, hS⟩)).1
      rcases Nat.eq_or_lt_of_le g1 with e | hlt
      · subst e; rw [h0] at hS; cases hS
      · exact hlt
  have same : (∀ j, j < ops.size → noisy (C j) = true → (p ≤ j ∧ j < i) ∨ (i ≤ j ∧ j < p) → False) → core st2 = core (T i) := by
    intro hno
    have hq : ∀ j, j < ops.size → (p ≤ j ∧ j < i) ∨ (i ≤ j ∧ j < p) → noisy (C j) = false := fun j hj hh => by
      cases hn : noisy (C j) with
      | false => rfl
      | true => exact (hno j hj hn hh).elim
    rw [p2]
    rcases Nat.le_total p i with hpi | hpi
    · have := chain_core hQ tr (i - p) p (by omega) fun j g1 g2 => hq j (by omega) (.inl ⟨g1, by omega⟩)
      rw [show p + (i - p) = i by omega] at this
      exact this.symm
    · have := chain_core hQ tr (p - i) i (by omega) fun j g1 g2 => hq j (by omega) (.inr ⟨g1, by omega⟩)
      rw [show i + (p - i) = p by omega] at this
      exact this
  have hh : HeapSame (C i) (T i).h st2.h := by
    have loud : ¬ (C i = .skip ∨ C i = .pure ∨ ∃ q, C i = .rd (some q)) → core st2 = core (T i) := fun hne => same fun j hj hn hb => by
      rcases compat_loud (btw j hj hn hb) hn with h | h | ⟨q, _, h, _⟩
      · exact hne (.inl h)
      · exact hne (.inr (.inl h))
      · exact hne (.inr (.inr ⟨q, h⟩))
    have heq : core st2 = core (T i) → st2.h = (T i).h := fun e => by simp only [core, Prod.mk.injEq] at e; exact e.1
    unfold HeapSame
    split
    · trivial
    · trivial
    · rename_i q hq
      have hcore : st2.h = (T p).h := by simp only [core, Prod.mk.injEq] at p2; exact p2.1
      rw [hcore]
      have hrow : ∀ j, j < ops.size → noisy (C j) = true → (p ≤ j ∧ j < i) ∨ (i ≤ j ∧ j < p) → ∃ r, C j = .st r ∧ q ≠ r := fun j hj hn hb => by
        rcases compat_loud (btw j hj hn hb) hn with h | h | ⟨q', r, h, h', h''⟩
        · rw [hq] at h; cases h
        · rw [hq] at h; cases h
        · rw [hq] at h
          injection h with h
          injection h with h
          subst h
          exact ⟨r, h', h''⟩
      rcases Nat.le_total p i with hpi | hpi
      · have := chain_row hQ tr (id := q) (i - p) p (by omega) fun j g1 g2 hn => hrow j (by omega) hn (.inl ⟨g1, by omega⟩)
        rw [show p + (i - p) = i by omega] at this
        exact this.symm
      · have := chain_row hQ tr (id := q) (p - i) i (by omega) fun j g1 g2 hn => hrow j (by omega) hn (.inr ⟨g1, by omega⟩)
        rw [show i + (p - i) = p by omega] at this
        exact this
    · rename_i h1 h2 h3
      refine heq (loud ?_)
      rintro (h | h | ⟨q, h⟩)
      · exact h1 h
      · exact h2 h
      · exact h3 q h
  have hn : noisy (C i) = true → core st2 = core (T i) := fun hni => same fun j hj hnj hb => by
    rcases compat_loud (btw j hj hnj hb) hnj with h | h | ⟨q, _, h, _⟩ <;> rw [h] at hni <;> cases hni
  obtain ⟨st3, g1, g2, g3⟩ := stepO_free hQ (tr.step i o ho) hl hh hn
  refine ⟨st3, g1, fun t => ?_, ?_, ?_⟩
  · -- the slots
    rw [g2 t]
    have hsp : ∀ j, j ≠ i → S' j = S j := hs
    split
    · rename_i hdst
      have : valS ops T S' t ops.size = valS ops T S' t (i + 1) := valS_skip' (by omega) fun j h1 h2 hS hdj => by
        rw [hs j (by omega)] at hS
        exact (bs j h2 (.inr ⟨by omega, hS⟩)).2.2 t hdst hdj
      rw [this]
      simp only [valS]
      rw [h1, ho]
      simp [hdst]
    · rename_i hdst
      rw [inv.val t]
      refine (valS_congr ops.size fun j hj hdj => hs j ?_).symm
      rintro rfl
      rw [ho] at hdj
      exact hdst hdj
  · rw [g3]
    cases hni : noisy (C i) with
    | false =>
      refine ⟨p, p1, by simpa [hni] using p2, fun j hj hnj => ?_⟩
      have : j ≠ i := by rintro rfl; rw [hni] at hnj; cases hnj
      rw [hs j this]
      exact p3 j hj hnj
    | true =>
      refine ⟨i + 1, by omega, by simp, fun j hj hnj => ?_⟩
      by_cases e : j = i
      · subst e; simp [h1]
      · rw [hs j e]
        have nb : ¬ ((j < i ∧ S j = false) ∨ (i < j ∧ S j = true)) := fun hb => by
          rcases compat_loud (bs j hj hb).1 hnj with h | h | ⟨q, _, h, _⟩ <;> rw [h] at hni <;> cases hni
        constructor
        · intro hS
          rcases Nat.lt_or_ge j i with hlt | hge
          · omega
          · exact (nb (.inr ⟨by omega, hS⟩)).elim
        · intro hlt
          cases hS : S j with
          | true => rfl
          | false => exact (nb (.inl ⟨by omega, hS⟩)).elim
  · intro j y hy hSj e hey
    by_cases ej : j = i
    · subst ej
      rw [ho] at hy
      injection hy with hy
      subst hy
      have := he e hey
      by_cases ee : e = j
      · subst ee; exact h1
      · rw [hs e ee]; exact this
    · rw [hs j ej] at hSj
      have := inv.closed j y hy hSj e hey
      by_cases ee : e = i
      · subst ee; exact h1
      · rw [hs e ee]; exact this
end

theorem SRel.alike {nt : Nat} {st st2 : St} (s : SRel F m nt st2 a w) (hf : ∀ t, get st2.fr t = get st.fr t) (hc : core st2 = core st) : SRel F m nt st a w := by
  simp only [core, Prod.mk.injEq] at hc
  refine ⟨hc.1 ▸ s.rel, ⟨fun t y h => s.fr.get t y (by rw [hf]; exact h)⟩, s.size, s.defers⟩

theorem Rel.drawn (r : Rel F m h w) (n : Nat) : Rel F m h { w with drawn := n } := by
  refine ⟨r.fz, fun id k gen els ex hr => ?_, fun id es c hr => ?_, r.fresh, r.freshM, r.inj, r.injM⟩
  · obtain ⟨g, C, e, cur, x⟩ := r.row id k gen els ex hr
    exact ⟨g, C, e, cur, ⟨x.mp, x.pos, x.heap, x.own, x.size, x.len, x.exact, x.ty, x.most, x.all, x.cells, x.gens⟩⟩
  · obtain ⟨g, ents, x⟩ := r.map id es c hr
    exact ⟨g, ents, ⟨x.mp, x.heap, x.own, x.ents⟩⟩

section
variable {E : Env} {K : CallK} {f : FuncId} {nt n0 : Nat} {ops : Array Oper} {T : Nat → St} {C : Nat → Cl}

theorem edges_ready {S : Array Bool} {o : Oper} : (∀ e ∈ o.after, Region.binds .any e = true → S.getD e.on false = true) ↔ ∀ e ∈ edgesOf o, S.getD e false = true := by
  unfold edgesOf
  constructor
  · intro h e he
    obtain ⟨e', h1, rfl⟩ := List.mem_map.1 he
    obtain ⟨h2, h3⟩ := List.mem_filter.1 h1
    exact h e' (by simpa using h2) h3
  · intro h e he hb
    exact h e.on (List.mem_map.2 ⟨e, List.mem_filter.2 ⟨by simpa using he, hb⟩, rfl⟩)

theorem getD_both {S : Array Bool} {i : Nat} (hi : i < S.size) (b c : Bool) : S.getD i b = S.getD i c := by
  simp [hi]

theorem draw_go (hE : E.ZerosOK) (hK : CallOK E.P K) (hQ : QuietK K) (tr : Trace E K f nt n0 ops T C) {prs : List (Nat × Nat)} (hd : drawOK ops prs = true)
    (hc : ∀ i j x y, ops[i]? = some x → ops[j]? = some y → i < j → pairOK ops prs i j x y = true → compat (C i) (C j) = true) {Q : Exit → Act → World → Prop} :
    ∀ (fuel : Nat) (S : Array Bool) (st2 : St) (F : Fz) (m : Mp) (a : Act) (w : World), S.size = ops.size → DInv ops T C (fun j => S.getD j false) st2 → cnt (fun j => S.getD j false) ops.size ≤ fuel → SRel F m nt st2 a w →
      (∀ a' w' F' m', Ext F m F' m' → SRel F' m' nt (T ops.size) a' w' → Same w w' → Q .normal a' w') → wpAny E.P .any ops Q fuel S a w := by
  have fin : ∀ (S : Array Bool) (st2 : St) (F : Fz) (m : Mp) (a : Act) (w : World), S.size = ops.size → DInv ops T C (fun j => S.getD j false) st2 → SRel F m nt st2 a w →
      (∀ j, j < ops.size → S.getD j false = true) → SRel F m nt (T ops.size) a w := by
    intro S st2 F m a w hsz inv s hall
    refine s.alike (fun t => ?_) ?_
    · rw [inv.val t]
      exact valS_text tr ops.size (Nat.le_refl _) fun j hj _ => hall j hj
    · obtain ⟨p, p1, p2, p3⟩ := inv.mem
      rw [p2]
      have := chain_core hQ tr (ops.size - p) p (by omega) fun j g1 g2 => by
        cases hn : noisy (C j) with
        | false => rfl
        | true =>
          have := (p3 j (by omega) hn).1 (hall j (by omega))
          omega
      rw [show p + (ops.size - p) = ops.size by omega] at this
      exact this.symm
  have stuck : ∀ (S : Array Bool), S.size = ops.size → Region.ready .any ops S = [] → ∀ j, j < ops.size → S.getD j false = true := by
    intro S hsz hr j
    induction j using Nat.strongRecOn with
    | _ j ih =>
      intro hj
      cases hS : S.getD j false with
      | true => rfl
      | false =>
        have ho : ops[j]? = some ops[j] := Array.getElem?_eq_getElem hj
        have : j ∈ Region.ready .any ops S := by
          rw [mem_ready]
          refine ⟨by rw [getD_both (by omega) true false]; exact hS, _, ho, ?_⟩
          rw [edges_ready]
          intro e he
          have hlt := (drawOK_spec hd ho).1 e he
          exact ih e hlt (by omega)
        rw [hr] at this
        cases this
  intro fuel
  induction fuel with
  | zero =>
    intro S st2 F m a w hsz inv hcn s hq
    have hall := cnt_zero (S := fun j => S.getD j false) ops.size (by omega)
    refine ⟨?_, hq a w F m (Ext.refl _ _) (fin S st2 F m a w hsz inv s hall) (Same.refl _)⟩
    rw [List.eq_nil_iff_forall_not_mem]
    intro i hi
    rw [mem_ready] at hi
    obtain ⟨h0, o, ho, _⟩ := hi
    have hi' := (Array.getElem?_eq_some_iff.1 ho).1
    have := hall i hi'
    rw [getD_both (by omega) true false] at h0
    rw [h0] at this
    cases this
  | succ fuel ih =>
    intro S st2 F m a w hsz inv hcn s hq
    refine ⟨fun hr => hq a w F m (Ext.refl _ _) (fin S st2 F m a w hsz inv s (stuck S hsz hr)) (Same.refl _), fun i hi => ?_⟩
    rw [mem_ready] at hi
    obtain ⟨h0, o, ho, hedge⟩ := hi
    have hi' := (Array.getElem?_eq_some_iff.1 ho).1
    rw [getD_both (by omega) true false] at h0
    have h1 : (S.setIfInBounds i true).getD i false = true := by simp [hsz, hi']
    have hs : ∀ j, j ≠ i → (S.setIfInBounds i true).getD j false = S.getD j false := fun j hj => getD_set_ne false (Ne.symm hj)
    obtain ⟨st3, g1, g2⟩ := DInv.next (S' := fun j => (S.setIfInBounds i true).getD j false) hQ tr hd hc inv ho h0 (edges_ready.1 hedge) h1 hs
    refine stepO_sound hE hK ho g1 s fun a' w' F' m' he s' hsm => ?_
    have hcs := cnt_set (S := fun j => S.getD j false) (S' := fun j => (S.setIfInBounds i true).getD j false) h0 h1 hs ops.size hi'
    exact ih (S.setIfInBounds i true) st3 F' m' a' w' (by simpa using hsz) g2 (by omega) s' fun a2 w2 F2 m2 he2 s2 hsm2 => hq a2 w2 F2 m2 (he.trans he2) s2 (hsm.trans hsm2)

theorem DInv.init {ops : Array Oper} {T : Nat → St} {C : Nat → Cl} {S : Nat → Bool} (hS : ∀ j, S j = false) : DInv ops T C S (T 0) := by
  refine ⟨fun t => ?_, ⟨0, Nat.zero_le _, rfl, fun j _ _ => by simp [hS]⟩, fun i o _ h => by rw [hS] at h; cases h⟩
  have := valS_skip (ops := ops) (T := T) (S := S) (t := t) ops.size 0 fun j _ _ h => by rw [hS] at h; cases h
  rw [Nat.zero_add] at this
  rw [this]
  rfl

/-- A REGION WHOSE ORDER IS DRAWN. -/
theorem region_draw (hm : E.P.follows .mixedOrders = true) (hE : E.ZerosOK) (hK : CallOK E.P K) (hQ : QuietK K) {prs : List (Nat × Nat)} (hd : drawOK ops prs = true) {st st' : St} {cs : List Cl}
    (hr : runOps E K f nt n0 ops ops.toList st [] = some (st', cs)) (hp : pairsOK cs prs = true) (s : SRel F m nt st a w) {id : Nat} {Q : Exit → Act → World → Prop}
    (hq : ∀ a' w' F' m', Ext F m F' m' → SRel F' m' nt st' a' w' → Same w w' → Q .normal a' w') : (Code.region id ops true).wp E.P Q a w := by
  obtain ⟨T, C, l, t1, t2, t3, t4, t5, t6⟩ := runOps_trace _ _ _ hr
  have tr : Trace E K f nt n0 ops T C := ⟨fun i o ho => t3 i o (by simpa using ho)⟩
  have hl : cs.length = ops.size := by rw [t4]; simp [t5]
  have cat : ∀ i, i < ops.size → cs[cs.length - 1 - i]? = some (C i) := fun i hi => by
    rw [hl, t4, List.append_nil]
    have h6 := t6 i (by simpa using hi)
    have t5' : l.length = ops.size := by simpa using t5
    rw [List.getElem?_reverse (by omega), t5', ← h6]
    congr 1
    omega
  have hc : ∀ i j x y, ops[i]? = some x → ops[j]? = some y → i < j → pairOK ops prs i j x y = true → compat (C i) (C j) = true := by
    intro i j x y hx hy hlt hpo
    have hi := (Array.getElem?_eq_some_iff.1 hx).1
    have hj := (Array.getElem?_eq_some_iff.1 hy).1
    simp only [pairOK, Bool.and_eq_true, Bool.or_eq_true] at hpo
    have sx := tr.step i x hx
    have sy := tr.step j y hy
    have g : ∀ (k : Nat) (z : Oper) (u v : St) (c : Cl), stepO E K f nt n0 ops z u = some (v, c) → Nat.ble (stat z) 1 = true → c = .skip ∨ c = .pure ∨ ∃ i, c = .rd i := by
      intro k z u v c hz hb
      have hb := Nat.le_of_ble_eq_true hb
      rcases Nat.eq_zero_or_pos (stat z) with h0 | h0
      · rcases stat0 hz h0 with h | h
        · exact .inl h
        · exact .inr (.inl h)
      · exact stat1 hz (by omega)
    rcases hpo.2 with ((h | h) | h) | h
    · exact compat_of (.inl (stat0 sx (Nat.eq_of_beq_eq_true h)))
    · exact compat_of (.inr (.inl (stat0 sy (Nat.eq_of_beq_eq_true h))))
    · exact compat_of (.inr (.inr ⟨g i x _ _ _ sx h.1, g j y _ _ _ sy h.2⟩))
    · exact pairsOK_spec prs hp h (cat i hi) (cat j hj)
  refine wp_region_any hm ?_
  have s' : SRel F m nt (T 0) a { w with drawn := w.drawn + 1 } := by
    rw [t1]
    exact ⟨s.rel.drawn _, s.fr, s.size, s.defers⟩
  have hz : ∀ j, (Array.replicate ops.size false).getD j false = false := fun j => by
    by_cases hj : j < ops.size <;> simp [hj]
  refine draw_go hE hK hQ tr hd hc ops.size _ (T 0) F m a _ (by simp) (DInv.init hz) ?_ s' fun a' w' F' m' he s2 hsm => ?_
  · have : ∀ n, cnt (fun j => (Array.replicate ops.size false).getD j false) n = n := by
      intro n
      induction n with
      | zero => rfl
      | succ n ih => simp only [cnt]; rw [ih, hz]; rfl
    rw [this]
    exact Nat.le_refl _
  · have e : T ops.size = st' := by simpa using t2
    rw [e] at s2
    exact hq a' w' F' m' he s2 ⟨hsm.os, hsm.tape, hsm.output, hsm.size, Nat.le_trans (Nat.le_succ _) hsm.drawn⟩
end

end Go.AM

set_option linter.unusedVariables false
set_option linter.unusedSimpArgs false
namespace Go.AM
open Go

variable {F : Fz} {m : Mp} {fr : FR} {a : Act} {h : Heap} {w : World} {P : Program}

/-! ### A scope, by the number of its jumps -/
def Exit.hop (c : Code) (H : Nat → Act → World → Prop) (Q : Exit → Act → World → Prop) : Exit → Act → World → Prop
  | .goto l, a, w => match findLabel c l with
    | some _ => H l a w
    | none => Q (.goto l) a w
  | e, a, w => Q e a w

def hops (P : Program) (c : Code) (Q : Exit → Act → World → Prop) : Nat → Nat → Act → World → Prop
  | 0, _, _, _ => False
  | n + 1, l, a, w => ∃ rest, findLabel c l = some rest ∧ rest.wp P (Exit.hop c (hops P c Q n) Q) a w

theorem wp_scope_hops {c : Code} {Q : Exit → Act → World → Prop} (n : Nat) (h : c.wp P (Exit.hop c (hops P c Q n) Q) a w) : (Code.scope c).wp P Q a w := by
  intro b k cs
  have key : ∀ n l a w, hops P c Q n l a w → ∃ rest, findLabel c l = some rest ∧ ∃ e a' w', Q e a' w' ∧ Arrives P (lone (b.at a (.code rest :: .inScope c :: k)) cs w) b k cs e a' w' := by
    intro n
    induction n with
    | zero => intro l a w h; exact h.elim
    | succ n ih =>
      intro l a w h
      obtain ⟨rest, hf, h⟩ := h
      refine ⟨rest, hf, ?_⟩
      obtain ⟨e, a₁, w₁, hq, harr⟩ := h b (.inScope c :: k) cs
      cases e with
      | normal => exact ⟨.normal, a₁, w₁, hq, Steps.trans harr (.one step_inScope)⟩
      | exit id => exact ⟨.exit id, a₁, w₁, hq, fun k' hk => harr k' (by simp [exitTo, hk])⟩
      | goto l' =>
        simp only [Exit.hop] at hq
        cases hl : findLabel c l' with
        | none =>
          rw [hl] at hq
          exact ⟨.goto l', a₁, w₁, hq, fun k' hk => harr k' (by simp [gotoIn, hl, hk])⟩
        | some rest' =>
          rw [hl] at hq
          obtain ⟨rest2, hf2, e₂, a₂, w₂, hq₂, harr₂⟩ := ih l' a₁ w₁ hq
          exact ⟨e₂, a₂, w₂, hq₂, .of_steps (harr _ (by simp [gotoIn, hf2])) harr₂⟩
      | ret => exact ⟨_, a₁, w₁, hq, harr⟩
      | panic ch => exact ⟨_, a₁, w₁, hq, harr⟩
      | outgrown => exact ⟨_, a₁, w₁, hq, harr⟩
  obtain ⟨e, a₁, w₁, hq, harr⟩ := h b (.inScope c :: k) cs
  cases e with
  | normal => exact ⟨.normal, a₁, w₁, hq, .head step_scope (Steps.trans harr (.one step_inScope))⟩
  | exit id => exact ⟨.exit id, a₁, w₁, hq, fun k' hk => .head step_scope (harr k' (by simp [exitTo, hk]))⟩
  | goto l' =>
    simp only [Exit.hop] at hq
    cases hl : findLabel c l' with
    | none =>
      rw [hl] at hq
      exact ⟨.goto l', a₁, w₁, hq, fun k' hk => .head step_scope (harr k' (by simp [gotoIn, hl, hk]))⟩
    | some rest' =>
      rw [hl] at hq
      obtain ⟨rest2, hf2, e₂, a₂, w₂, hq₂, harr₂⟩ := key n l' a₁ w₁ hq
      exact ⟨e₂, a₂, w₂, hq₂, .of_steps (.head step_scope (harr _ (by simp [gotoIn, hf2]))) harr₂⟩
  | ret => exact ⟨_, a₁, w₁, hq, .of_steps (.one step_scope) harr⟩
  | panic ch => exact ⟨_, a₁, w₁, hq, .of_steps (.one step_scope) harr⟩
  | outgrown => exact ⟨_, a₁, w₁, hq, .of_steps (.one step_scope) harr⟩

theorem hasLabel_eq : ∀ (c : Code) (l : Nat), hasLabel c l = (findLabel c l).isSome
  | .seq x y, l => by
    simp only [hasLabel, findLabel, hasLabel_eq x l, hasLabel_eq y l]
    cases findLabel x l <;> cases findLabel y l <;> rfl
  | .label l', l => by
    simp only [hasLabel, findLabel]
    by_cases e : l' = l
    · subst e; simp
    · have : Nat.beq l' l = false := by
        cases hn : Nat.beq l' l with
        | false => rfl
        | true => exact (e (Nat.eq_of_beq_eq_true hn)).elim
      simp [this, e]
  | .skip, _ | .region _ _ _, _ | .cond _ _ _, _ | .block _ _, _ | .loop _, _ | .rangeFunc _ _ _ _, _ | .exit _, _ | .scope _, _ | .goto _, _ | .ret, _ | .refuse _, _ => rfl

/-! ### Masks -/
theorem keepF_get : ∀ (l : List Nat) (fr : FR) (t : Nat) (y : AV), get (keepF l fr) t = some y → get fr t = some y
  | [], fr, t, y, h => by simp [keepF, get] at h
  | k :: l, fr, t, y, h => by
    simp only [keepF] at h
    split at h
    · rename_i z hz
      simp only [get] at h
      cases hb : Nat.beq k t with
      | true =>
        rw [hb, cond_true] at h
        have := Nat.eq_of_beq_eq_true hb
        subst this
        rw [hz, h]
      | false =>
        rw [hb, cond_false] at h
        exact keepF_get l fr t y h
    · exact keepF_get l fr t y h

theorem SRel.mask {nt : Nat} {st : St} (s : SRel F m nt st a w) (l : List Nat) : SRel F m nt (maskS l st) a w :=
  ⟨s.rel, ⟨fun t y h => s.fr.get t y (keepF_get l st.fr t y h)⟩, s.size, s.defers⟩

/-! ### Code -/
def codeOK (E : Env) (f : FuncId) : Code → Bool
  | .region id ops draw => bif draw then drawOK ops (E.pairs f id) else true
  | .seq x y | .cond _ x y => codeOK E f x && codeOK E f y
  | .block _ x | .loop x | .scope x => codeOK E f x
  | _ => true

def exOf : Ex → Exit
  | .normal => .normal
  | .exit id => .exit id
  | .goto l => .goto l
  | .ret => .ret

/-- What a run of the abstract machine gives of a code's run. -/
def Runs (P : Program) (nt : Nat) (c : Code) (st : St) (r : Option (Ex × St)) : Prop := ∀ ex st', r = some (ex, st') → ∀ F m a w, SRel F m nt st a w → ∀ Q : Exit → Act → World → Prop,
  (∀ a' w' F' m', Ext F m F' m' → SRel F' m' nt st' a' w' → Same w w' → Q (exOf ex) a' w') → c.wp P Q a w

section
variable {E : Env} {K : CallK} {nl : Nat} {f : FuncId} {nt n0 : Nat}

theorem runs_loop {c : Code} {l : List Nat} {body : St → Option (Ex × St)} (hb : ∀ st, Runs P nt c st (body st)) : ∀ (n : Nat) (st : St) (ex : Ex) (st' : St), loopN body l n st = some (ex, st') → ∀ F m a w, SRel F m nt st a w → ∀ Q : Exit → Act → World → Prop,
    (∀ a' w' F' m', Ext F m F' m' → SRel F' m' nt st' a' w' → Same w w' → Q (exOf ex) a' w') → Code.rounds P c Q n a w
  | 0, st, ex, st', h, _, _, _, _, _, _, _ => by simp [loopN] at h
  | n + 1, st, ex, st', h, F, m, a, w, s, Q, hq => by
    rw [rounds_succ]
    simp only [loopN] at h
    split at h
    · rename_i st1 h1
      refine hb _ _ _ h1 F m a w (s.mask l) _ fun a1 w1 F1 m1 he s1 hsm => ?_
      exact runs_loop hb n st1 ex st' h F1 m1 a1 w1 s1 Q fun a2 w2 F2 m2 he2 s2 hsm2 => hq a2 w2 F2 m2 (he.trans he2) s2 (hsm.trans hsm2)
    · rename_i hne
      refine hb _ _ _ h F m a w (s.mask l) _ fun a1 w1 F1 m1 he s1 hsm => ?_
      have := hq a1 w1 F1 m1 he s1 hsm
      cases ex with
      | normal => exact (hne st' h).elim
      | exit id => exact this
      | goto g => exact this
      | ret => exact this

theorem runs_scope {c : Code} {l : List Nat} {from_ : Nat → St → Option (Ex × St)} (hf : ∀ g st rest, findLabel c g = some rest → Runs P nt rest st (from_ g st)) :
    ∀ (n : Nat) (st : St) (r : Option (Ex × St)) (ex : Ex) (st' : St), scopeN from_ (hasLabel c) l n r = some (ex, st') → ∀ (d : Code), Runs P nt d st r → ∀ F m a w, SRel F m nt st a w → ∀ Q : Exit → Act → World → Prop,
    (∀ a' w' F' m', Ext F m F' m' → SRel F' m' nt st' a' w' → Same w w' → Q (exOf ex) a' w') → d.wp P (Exit.hop c (hops P c Q n) Q) a w
  | 0, st, r, ex, st', h, _, _, _, _, _, _, _, _, _ => by simp [scopeN] at h
  | n + 1, st, r, ex, st', h, d, hd, F, m, a, w, s, Q, hq => by
    simp only [scopeN] at h
    split at h
    · rename_i g st1
      refine hd _ _ rfl F m a w s _ fun a1 w1 F1 m1 he s1 hsm => ?_
      simp only [exOf, Exit.hop]
      cases hl : findLabel c g with
      | none =>
        have hh : hasLabel c g = false := by rw [hasLabel_eq, hl]; rfl
        simp only [hh, cond_false, Option.some.injEq, Prod.mk.injEq] at h
        obtain ⟨rfl, rfl⟩ := h
        exact hq a1 w1 F1 m1 he s1 hsm
      | some rest =>
        have hh : hasLabel c g = true := by rw [hasLabel_eq, hl]; rfl
        simp only [hh, cond_true] at h
        refine ⟨rest, hl, ?_⟩
        exact runs_scope hf n (maskS l st1) _ ex st' h rest (hf g _ rest hl) F1 m1 a1 w1 (s1.mask l) Q fun a2 w2 F2 m2 he2 s2 hsm2 => hq a2 w2 F2 m2 (he.trans he2) s2 (hsm.trans hsm2)
    · rename_i hne
      refine hd _ _ h F m a w s _ fun a1 w1 F1 m1 he s1 hsm => ?_
      have := hq a1 w1 F1 m1 he s1 hsm
      cases ex with
      | normal => exact this
      | exit id => exact this
      | goto g => exact (hne g st' h).elim
      | ret => exact this

theorem runs_seq {x y : Code} {st : St} {r1 r : Option (Ex × St)} (h1 : Runs P nt x st r1) (hr : r = match r1 with | some (.normal, st') => none | r => r) (k : ∀ st1, r1 = some (.normal, st1) → False) : Runs P nt (.seq x y) st r := by
  intro ex st' he F m a w s Q hq
  refine wp_seq (h1 ex st' ?_ F m a w s _ fun a1 w1 F1 m1 hx s1 hsm => ?_)
  · rw [hr] at he
    split at he
    · cases he
    · exact he
  · have := hq a1 w1 F1 m1 hx s1 hsm
    rw [hr] at he
    split at he
    · cases he
    · cases ex with
      | normal => exact (k _ he).elim
      | exit id => exact this
      | goto g => exact this
      | ret => exact this

theorem runs_seq' {x y : Code} {st st1 : St} {r : Option (Ex × St)} (h1 : Runs P nt x st (some (.normal, st1))) (h2 : Runs P nt y st1 r) : Runs P nt (.seq x y) st r := by
  intro ex st' he F m a w s Q hq
  refine wp_seq (h1 _ _ rfl F m a w s _ fun a1 w1 F1 m1 hx s1 hsm => ?_)
  exact h2 ex st' he F1 m1 a1 w1 s1 Q fun a2 w2 F2 m2 he2 s2 hsm2 => hq a2 w2 F2 m2 (hx.trans he2) s2 (hsm.trans hsm2)

theorem runs_then {x y : Code} {st : St} {r1 : Option (Ex × St)} {k : St → Option (Ex × St)} (h1 : Runs P nt x st r1) (h2 : ∀ st1, Runs P nt y st1 (k st1)) :
    Runs P nt (.seq x y) st (match (generalizing := false) r1 with | some (.normal, st') => k st' | r => r) := by
  split
  · rename_i st1
    exact runs_seq' h1 (h2 st1)
  · rename_i hne
    refine runs_seq h1 ?_ fun st1 e => hne st1 e
    split
    · exact (hne _ rfl).elim
    · rfl

/-- CODE: from its beginning, and from a label. -/
theorem exec_sound (hm : E.P.follows .mixedOrders = true) (hE : E.ZerosOK) (hK : CallOK E.P K) (hQ : QuietK K) : ∀ (c : Code), codeOK E f c = true →
    (∀ st, Runs E.P nt c st (exec E K nl f nt n0 c st)) ∧ ∀ l st rest, findLabel c l = some rest → Runs E.P nt rest st (execFrom E K nl f nt n0 c l st) := by
  intro c
  induction c with
  | skip =>
    intro hc
    refine ⟨fun st ex st' he F m a w s Q hq => ?_, fun l st rest h => by simp [findLabel] at h⟩
    simp only [exec, Option.some.injEq, Prod.mk.injEq] at he
    obtain ⟨rfl, rfl⟩ := he
    exact wp_skip (hq a w F m (Ext.refl _ _) s (Same.refl _))
  | label l' =>
    intro hc
    refine ⟨fun st ex st' he F m a w s Q hq => ?_, fun l st rest h => ?_⟩
    · simp only [exec, Option.some.injEq, Prod.mk.injEq] at he
      obtain ⟨rfl, rfl⟩ := he
      exact wp_label (hq a w F m (Ext.refl _ _) s (Same.refl _))
    · simp only [findLabel] at h
      split at h
      · rename_i hl
        simp only [Option.some.injEq] at h
        subst h
        intro ex st' he F m a w s Q hq
        have : Nat.beq l' l = true := by simpa using hl
        simp only [execFrom, this, cond_true, Option.some.injEq, Prod.mk.injEq] at he
        obtain ⟨rfl, rfl⟩ := he
        exact wp_skip (hq a w F m (Ext.refl _ _) s (Same.refl _))
      · cases h
  | region id ops draw =>
    intro hc
    refine ⟨fun st ex st' he F m a w s Q hq => ?_, fun l st rest h => by simp [findLabel] at h⟩
    simp only [exec] at he
    split at he
    · rename_i st1 cs hr
      cases draw with
      | true =>
        simp only [codeOK, cond_true] at hc he
        cases hp : pairsOK cs (E.pairs f id) with
        | false => simp [hp] at he
        | true =>
          simp only [hp, cond_true, Option.some.injEq, Prod.mk.injEq] at he
          obtain ⟨rfl, rfl⟩ := he
          exact region_draw hm hE hK hQ hc hr hp s hq
      | false =>
        simp only [cond_false, Option.some.injEq, Prod.mk.injEq] at he
        obtain ⟨rfl, rfl⟩ := he
        refine wp_region ?_
        have := runOps_sound (Q := Q) hE hK ops.toList 0 st [] F m a w (fun j => by simp) hr s hq
        rw [List.range_eq_range']
        simpa using this
    · cases he
  | seq x y ihx ihy =>
    intro hc
    simp only [codeOK, Bool.and_eq_true] at hc
    obtain ⟨x1, x2⟩ := ihx hc.1
    obtain ⟨y1, y2⟩ := ihy hc.2
    refine ⟨fun st => ?_, fun l st rest h => ?_⟩
    · simp only [exec]
      exact runs_then (x1 st) y1
    · simp only [findLabel] at h
      simp only [execFrom]
      rw [hasLabel_eq]
      cases hl : findLabel x l with
      | none =>
        rw [hl] at h
        exact y2 l st rest h
      | some r =>
        rw [hl] at h
        simp only [Option.some.injEq] at h
        subst h
        simp only [Option.isSome_some, cond_true]
        exact runs_then (x2 l st r hl) y1
  | cond c x y ihx ihy =>
    intro hc
    simp only [codeOK, Bool.and_eq_true] at hc
    obtain ⟨x1, _⟩ := ihx hc.1
    obtain ⟨y1, _⟩ := ihy hc.2
    refine ⟨fun st ex st' he F m a w s Q hq => ?_, fun l st rest h => by simp [findLabel] at h⟩
    simp only [exec] at he
    split at he
    · rename_i t ht
      have hv := ev_rel s.fr ht
      simp only [VRel] at hv
      cases t with
      | true => exact wp_cond_true hv.2 (x1 st ex st' he F m a w s Q hq)
      | false => exact wp_cond_false hv.2 (y1 st ex st' he F m a w s Q hq)
    · cases he
  | block id x ih =>
    intro hc
    simp only [codeOK] at hc
    obtain ⟨x1, _⟩ := ih hc
    refine ⟨fun st ex st' he F m a w s Q hq => ?_, fun l st rest h => by simp [findLabel] at h⟩
    simp only [exec] at he
    refine wp_block ?_
    split at he
    · rename_i i st1 h1
      refine x1 st _ _ h1 F m a w s _ fun a1 w1 F1 m1 hx s1 hsm => ?_
      simp only [exOf, Exit.inBlock]
      cases hb : Nat.beq i id with
      | true =>
        simp only [hb, cond_true, Option.some.injEq, Prod.mk.injEq] at he
        obtain ⟨rfl, rfl⟩ := he
        rw [if_pos (Nat.eq_of_beq_eq_true hb)]
        exact hq a1 w1 F1 m1 hx s1 hsm
      | false =>
        simp only [hb, cond_false, Option.some.injEq, Prod.mk.injEq] at he
        obtain ⟨rfl, rfl⟩ := he
        rw [if_neg (fun e => by subst e; simp at hb)]
        exact hq a1 w1 F1 m1 hx s1 hsm
    · rename_i hne
      refine x1 st _ _ he F m a w s _ fun a1 w1 F1 m1 hx s1 hsm => ?_
      have := hq a1 w1 F1 m1 hx s1 hsm
      cases ex with
      | normal => exact this
      | exit id => exact (hne id st' he).elim
      | goto g => exact this
      | ret => exact this
  | loop x ih =>
    intro hc
    simp only [codeOK] at hc
    obtain ⟨x1, _⟩ := ih hc
    refine ⟨fun st ex st' he F m a w s Q hq => ?_, fun l st rest h => by simp [findLabel] at h⟩
    simp only [exec] at he
    exact wp_loop_rounds nl (runs_loop x1 nl st ex st' he F m a w s Q hq)
  | exit id =>
    intro hc
    refine ⟨fun st ex st' he F m a w s Q hq => ?_, fun l st rest h => by simp [findLabel] at h⟩
    simp only [exec, Option.some.injEq, Prod.mk.injEq] at he
    obtain ⟨rfl, rfl⟩ := he
    exact wp_exit (hq a w F m (Ext.refl _ _) s (Same.refl _))
  | goto g =>
    intro hc
    refine ⟨fun st ex st' he F m a w s Q hq => ?_, fun l st rest h => by simp [findLabel] at h⟩
    simp only [exec, Option.some.injEq, Prod.mk.injEq] at he
    obtain ⟨rfl, rfl⟩ := he
    exact wp_goto (hq a w F m (Ext.refl _ _) s (Same.refl _))
  | ret =>
    intro hc
    refine ⟨fun st ex st' he F m a w s Q hq => ?_, fun l st rest h => by simp [findLabel] at h⟩
    simp only [exec, Option.some.injEq, Prod.mk.injEq] at he
    obtain ⟨rfl, rfl⟩ := he
    exact wp_ret (hq a w F m (Ext.refl _ _) s (Same.refl _))
  | scope x ih =>
    intro hc
    simp only [codeOK] at hc
    obtain ⟨x1, x2⟩ := ih hc
    refine ⟨fun st ex st' he F m a w s Q hq => ?_, fun l st rest h => by simp [findLabel] at h⟩
    simp only [exec] at he
    exact wp_scope_hops nl (runs_scope (fun g st rest hl => x2 g st rest hl) nl st _ ex st' he x (x1 st) F m a w s Q hq)
  | rangeFunc g ps x y =>
    intro hc
    refine ⟨fun st ex st' he => by simp [exec] at he, fun l st rest h => by simp [findLabel] at h⟩
  | refuse why =>
    intro hc
    refine ⟨fun st ex st' he => by simp [exec] at he, fun l st rest h => by simp [findLabel] at h⟩
end

end Go.AM
