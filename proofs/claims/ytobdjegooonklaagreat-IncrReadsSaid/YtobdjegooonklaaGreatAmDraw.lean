/- Regions whose order is drawn: every order leaves what the text's order leaves. Conditions: none. -/
import Derived.Test.YtobdjegooonklaaGreatAmStep
set_option linter.unusedVariables false
set_option linter.unusedSimpArgs false
namespace Go.AM
open Go

variable {F : Fz} {m : Mp} {fr : FR} {a : Act} {h : Heap} {w : World} {P : Program}

/-! ### Of the slots only those that are looked at count -/
def Agree (os : Array Operand) (fr fr2 : FR) : Prop := ∀ x ∈ os, ev fr2 x = ev fr x

theorem evL_congr {fr fr2 : FR} : ∀ (l : List Operand), (∀ x ∈ l, ev fr2 x = ev fr x) → evL fr2 l = evL fr l
  | [], _ => rfl
  | x :: l, hx => by simp only [evL]; rw [hx x (by simp), evL_congr l fun y hy => hx y (by simp [hy])]

theorem evP_congr {fr fr2 : FR} : ∀ (l : List (Nat × Operand)), (∀ x ∈ l.map (·.2), ev fr2 x = ev fr x) → evP fr2 l = evP fr l
  | [], _ => rfl
  | (i, x) :: l, hx => by simp only [evP]; rw [hx x (by simp), evP_congr l fun y hy => hx y (by simp at hy ⊢; right; exact hy)]

theorem evO_congr {fr fr2 : FR} (x : Option Operand) (hx : ∀ y ∈ x.toArray, ev fr2 y = ev fr y) : opE.evO fr2 x = opE.evO fr x := by
  cases x with
  | none => rfl
  | some y => simp only [opE.evO]; rw [hx y (by simp)]

theorem opE_congr (E : Env) (f : FuncId) {fr fr2 : FR} (h : Heap) (o : Oper) (ha : Agree o.op.operands fr fr2) : opE E f fr2 h o = opE E f fr h o := by
  obtain ⟨dst, op, type, pos, after, guard⟩ := o
  cases op <;> simp only [Agree, Op.operands] at ha <;> simp only [opE]
  case build t ps => rw [evP_congr ps.toList fun x hx => ha x (by simpa using hx)]
  case buildSlice t n ps => rw [evP_congr ps.toList fun x hx => ha x (by simpa using hx)]
  case makeFunc fn first captured =>
    rw [evL_congr first.toList fun x hx => ha x (by simp at hx ⊢; exact .inl hx), evL_congr captured.toList fun x hx => ha x (by simp at hx ⊢; exact .inr hx)]
  case slice t x lo hi mx =>
    rw [ha x (by simp), evO_congr lo fun y hy => ha y (by simp at hy ⊢; simp [hy]), evO_congr hi fun y hy => ha y (by simp at hy ⊢; simp [hy]), evO_congr mx fun y hy => ha y (by simp at hy ⊢; simp [hy])]
  case makeMap t r => cases r <;> simp_all
  all_goals (first | rfl | (simp_all; done))

theorem clsOf_congr (E : Env) (f : FuncId) {fr fr2 : FR} (o : Oper) (ha : Agree o.op.operands fr fr2) : clsOf E f o fr2 = clsOf E f o fr := by
  obtain ⟨dst, op, type, pos, after, guard⟩ := o
  cases op <;> simp only [Agree, Op.operands] at ha <;> simp only [clsOf]
  case load t x => rw [ha x (by simp)]
  case store t x y => rw [ha x (by simp)]
  case convert t u x => rw [ha x (by simp)]
  case slice t x lo hi mx => rw [ha x (by simp)]
  case indexAddr t x i => rw [ha x (by simp)]

theorem coreO_congr (E : Env) (K : CallK) (f : FuncId) {fr fr2 : FR} (h : Heap) (o : Oper) (ha : Agree o.op.operands fr fr2) : coreO E K f o fr2 h = coreO E K f o fr h := by
  have h1 := opE_congr E f h o ha
  have h2 := clsOf_congr E f o ha
  obtain ⟨dst, op, type, pos, after, guard⟩ := o
  cases op <;> simp only [coreO] <;> try rw [h1, h2]
  case call c =>
    simp only [Agree, Op.operands] at ha
    have hargs : evL fr2 c.args.toList = evL fr c.args.toList := evL_congr _ fun x hx => ha x (by simp at hx; simp [Call.operands, hx])
    have hc : callArgs fr2 c = callArgs fr c := by
      unfold callArgs
      cases hc : c.callee with
      | value x => dsimp only; rw [hargs, ha x (by simp [Call.operands, hc])]
      | _ => rfl
    rw [hargs, hc]
  case mapUpdate t x y z => simp only [Agree, Op.operands] at ha; rw [ha x (by simp), ha y (by simp), ha z (by simp)]
  case insert t x y z => simp only [Agree, Op.operands] at ha; rw [ha x (by simp), ha y (by simp), ha z (by simp)]
  case lookup t x y z => simp only [Agree, Op.operands] at ha; rw [ha x (by simp), ha y (by simp)]

/-! ### Of the heap only the row that is read counts -/
def depP : AV → Option Nat
  | .ptr id .. => some id
  | _ => none

def dep : AV → Option Nat
  | .sl id .. | .isl id .. => some id
  | _ => none

def Loc (a : AV) (h h2 : Heap) : Prop := ∀ id, dep a = some id → h2[id]? = h[id]?
def LocP (a : AV) (h h2 : Heap) : Prop := ∀ id, depP a = some id → h2[id]? = h[id]?

theorem lookAt_loc {a : AV} {h h2 : Heap} (l : LocP a h h2) : lookAt h2 a = lookAt h a := by
  cases a <;> try rfl
  simp only [lookAt]; rw [l _ rfl]

theorem elsOf_loc {a : AV} {h h2 : Heap} (l : Loc a h h2) : elsOf h2 a = elsOf h a := by
  cases a <;> try rfl
  · simp only [elsOf]; rw [l _ rfl]
  · simp only [elsOf]; rw [l _ rfl]

theorem strOf_loc {a : AV} {h h2 : Heap} (l : Loc a h h2) : strOf h2 a = strOf h a := by
  have hl := elsOf_loc l
  unfold strOf
  split <;> simp only [hl]

theorem loadE_loc {t : TypeId} {a : AV} {h h2 : Heap} (l : LocP a h h2) : loadE P h2 t a = loadE P h t a := by
  unfold loadE; rw [lookAt_loc l]

theorem sliceE_loc {t : TypeId} {a : AV} {x y z : Option AV} {h h2 : Heap} (l : Loc a h h2) : sliceE P h2 t a x y z = sliceE P h t a x y z := by
  have hl : ∀ id gen off len, a = .sl id gen off len → h2[id]? = h[id]? := fun _ _ _ _ e => l _ (by subst e; rfl)
  unfold sliceE
  congr 1
  split
  · rfl
  · split <;> first | rfl | skip
    rw [hl _ _ _ _ rfl]
  · rfl
  · rfl

theorem placeE_loc {id gen i o : Nat} {h h2 : Heap} (l : h2[id]? = h[id]?) : placeE P h2 id gen i o = placeE P h id gen i o := by
  unfold placeE; rw [l]

theorem convPtr_loc {s t : TypeId} {a : AV} {h h2 : Heap} (l : LocP a h h2) : convPtr P h2 s t a = convPtr P h s t a := by
  unfold convPtr
  split
  · rw [placeE_loc (l _ rfl)]
  · rw [placeE_loc (l _ rfl)]
  · rfl

theorem indexAddrE_loc {t : TypeId} {a x : AV} {h h2 : Heap} (l : Loc a h h2) : indexAddrE P h2 t a x = indexAddrE P h t a x := by
  have hl : ∀ id gen off len, a = .sl id gen off len → h2[id]? = h[id]? := fun _ _ _ _ e => l _ (by subst e; rfl)
  unfold indexAddrE
  split
  · rfl
  · split <;> first | rfl | skip
    rw [hl _ _ _ _ rfl]
  · rfl

/-- The heap's share in a class: what must stand the same. -/
def HeapSame (c : Cl) (h h2 : Heap) : Prop := match c with
  | .skip | .pure => True
  | .rd (some id) => h2[id]? = h[id]?
  | _ => h2 = h

def noisy : Cl → Bool
  | .st _ | .w => true
  | _ => false

def QuietK (K : CallK) : Prop := ∀ f args h y h' e, K f args h = some (y, h', e) → e.q = true → h' = h ∧ e.ds = [] ∧ e.ls = []

structure Calm (x : Out) (h : Heap) : Prop where
  quiet : noisy x.c = false → x.h = h ∧ x.ds = [] ∧ x.ls = []
  st : ∀ id, x.c = .st id → ∀ j, j ≠ id → x.h[j]? = h[j]?

/-- What reads and writes nothing of the heap but the row that its class names. -/
theorem opE_free {E : Env} {f : FuncId} {o : Oper} {h h2 : Heap} (hc : noisy (clsOf E f o fr) = false) (hs : HeapSame (clsOf E f o fr) h h2) :
    opE E f fr h2 o = (opE E f fr h o).map fun p => (p.1, h2, none) := by
  obtain ⟨dst, op, type, pos, after, guard⟩ := o
  cases op <;> simp only [clsOf, noisy] at hc hs <;> simp only [opE] <;> try rfl
  case load t x =>
    cases hx : ev fr x with
    | none => rfl
    | some p =>
      have l : LocP p h h2 := by
        rw [hx] at hs
        intro id hd
        cases p <;> simp_all [depP, HeapSame]
      dsimp only
      rw [loadE_loc l]
      split <;> rfl
  case convert t u x =>
    cases hx : ev fr x with
    | none => rfl
    | some p =>
      have l : Loc p h h2 := by
        rw [hx] at hs
        intro id hd
        cases p <;> simp_all [dep, HeapSame]
      have hst := strOf_loc l
      have lp : LocP p h h2 := by
        rw [hx] at hs
        intro id hd
        cases p <;> simp_all [depP, HeapSame]
      have hcp := convPtr_loc (P := E.P) (s := t) (t := u) lp
      dsimp only
      split
      · split <;> rfl
      · split
        · rw [hst]; split <;> rfl
        · rfl
      · split
        · split <;> rfl
        · rw [hcp]; split <;> rfl
  case slice t x lo hi mx =>
    split
    · rename_i p l r m hx _ _ _
      have l : Loc p h h2 := by
        rw [hx] at hs
        intro id hd
        cases p <;> simp_all [dep, HeapSame]
      rw [sliceE_loc l]
      split <;> rfl
    · rfl
  case indexAddr t x i =>
    split
    · rename_i p j hx _
      have l : Loc p h h2 := by
        rw [hx] at hs
        intro id hd
        cases p <;> simp_all [dep, HeapSame]
      rw [indexAddrE_loc l]
      split <;> rfl
    · rfl
  case store t x y =>
    cases hx : ev fr x with
    | none => simp [hx] at hc
    | some p => cases p <;> simp [hx] at hc
  case buildSlice t n ps =>
    cases hr : E.rows f with
    | true => simp [hr] at hc
    | false =>
      repeat' (first | rfl | split)
      generalize (Nat.ble _ 16777216 && Nat.ble 1 _) = b
      cases b <;> rfl
  all_goals first | (cases hc; done) | (repeat' (first | rfl | split))

theorem opE_free_out {E : Env} {f : FuncId} {o : Oper} {y : AV} {h' : Heap} {s : Option (Nat × Bool)} (ho : opE E f fr h o = some (y, h', s)) (hc : noisy (clsOf E f o fr) = false) :
    h' = h ∧ s = none := by
  have hs : HeapSame (clsOf E f o fr) h h := by
    unfold HeapSame
    split <;> trivial
  have := opE_free hc hs
  rw [ho] at this
  simp only [Option.map_some, Option.some.injEq, Prod.mk.injEq] at this
  exact ⟨this.2.1, this.2.2⟩

theorem opE_st_out {E : Env} {f : FuncId} {o : Oper} {y : AV} {h' : Heap} {s : Option (Nat × Bool)} (ho : opE E f fr h o = some (y, h', s)) {id : Nat} (hc : clsOf E f o fr = .st id) :
    ∀ j, j ≠ id → h'[j]? = h[j]? := by
  obtain ⟨dst, op, type, pos, after, guard⟩ := o
  cases op <;> simp only [clsOf] at hc <;> try (cases hc; done)
  case load t x => split at hc <;> cases hc
  case convert t u x => split at hc <;> cases hc
  case slice t x lo hi mx => split at hc <;> cases hc
  case indexAddr t x i => split at hc <;> cases hc
  case buildSlice t n ps => cases hr : E.rows f <;> simp [hr] at hc
  case store t x z =>
    split at hc
    · rename_i id' gen i pp off hx
      injection hc with hc
      subst hc
      simp only [opE, hx] at ho
      cases hz : ev fr z with
      | none => simp [hz] at ho
      | some q =>
        simp only [hz] at ho
        split at ho
        · rename_i h1 id2 hs
          simp only [Option.some.injEq, Prod.mk.injEq] at ho
          obtain ⟨rfl, rfl, rfl⟩ := ho
          unfold storeE at hs
          split at hs
          · rename_i id3 gen3 i3 p3 o3 n heq hn
            split at hs
            · rename_i k g els ex hr
              cases hb : (Nat.beq g gen3 && Nat.beq (leafs q) n && !isTupA q) with
              | false => simp [hb] at hs
              | true =>
                simp only [hb, cond_true] at hs
                split at hs
                · split at hs
                  · simp only [Option.some.injEq, Prod.mk.injEq] at hs
                    obtain ⟨rfl, rfl⟩ := hs
                    intro j hj
                    cases heq
                    rw [List.getElem?_set_ne (by omega)]
                  · cases hs
                · cases hs
            · cases hs
          · cases hs
        · cases ho
    · cases hc

/-! ### Builtins -/
def Fine (h : Heap) (r : OpRes) : Prop := ∀ y h' s c, r = some (y, h', s, c) → (noisy c = false → h' = h ∧ s = none) ∧ ∀ id, c ≠ .st id

theorem fine_none : Fine h none := fun _ _ _ _ e => by cases e
theorem fine_same {y : AV} {c : Cl} (hc : ∀ id, c ≠ .st id) : Fine h (some (y, h, none, c)) := fun _ _ _ _ e => by
  simp only [Option.some.injEq, Prod.mk.injEq] at e
  obtain ⟨rfl, rfl, rfl, rfl⟩ := e
  exact ⟨fun _ => ⟨rfl, rfl⟩, hc⟩
theorem fine_w {y : AV} {h' : Heap} {s : Option (Nat × Bool)} : Fine h (some (y, h', s, .w)) := fun _ _ _ _ e => by
  simp only [Option.some.injEq, Prod.mk.injEq] at e
  obtain ⟨rfl, rfl, rfl, rfl⟩ := e
  exact ⟨fun hc => (by cases hc), fun _ hc => (by cases hc)⟩
theorem fine_cond {b : Bool} {r r' : OpRes} (h1 : Fine h r) (h2 : Fine h r') : Fine h (bif b then r else r') := by
  cases b
  · exact h2
  · exact h1


theorem appendTo_fine {e : TypeId} {k : Nat} {s : AV} {xs : List AV} : Fine h (appendTo h e k s xs) := by
  unfold appendTo
  repeat' (first | exact fine_none | exact fine_w | exact fine_same (fun _ h => by cases h) | apply fine_cond | split)

theorem appendE_fine {Z : List (TypeId × AV)} {ts : Array TypeId} {s x : AV} : Fine h (appendE P Z h ts s x) := by
  unfold appendE
  repeat' (first | exact fine_none | exact appendTo_fine | apply fine_cond | split)

theorem copyE_fine {ts : Array TypeId} {s x : AV} : Fine h (copyE P h ts s x) := by
  unfold copyE
  dsimp only
  repeat' (first | exact fine_none | exact fine_w | exact fine_same (fun _ h => by cases h) | apply fine_cond | split)

theorem clearE_fine {E : Env} {ts : Array TypeId} {x : AV} : Fine h (clearE E h ts x) := by
  unfold clearE
  repeat' (first | exact fine_none | exact fine_w | exact fine_same (fun _ h => by cases h) | apply fine_cond | split)

theorem deleteE_fine {E : Env} {ts : Array TypeId} {m k : AV} : Fine h (deleteE E h ts m k) := by
  unfold deleteE
  repeat' (first | exact fine_none | exact fine_w | exact fine_same (fun _ h => by cases h) | apply fine_cond | split)

theorem lenE_fine {ts : Array TypeId} {x : AV} : Fine h (lenE P h ts x) := by
  unfold lenE
  repeat' (first | exact fine_none | exact fine_w | exact fine_same (fun _ h => by cases h) | apply fine_cond | split)

theorem capE_fine {ts : Array TypeId} {x : AV} : Fine h (capE P h ts x) := by
  unfold capE
  repeat' (first | exact fine_none | exact fine_w | exact fine_same (fun _ h => by cases h) | apply fine_cond | split)

theorem sliceDataE_fine {x : AV} : Fine h (sliceDataE h x) := by
  unfold sliceDataE
  repeat' (first | exact fine_none | exact fine_w | exact fine_same (fun _ h => by cases h) | apply fine_cond | split)

theorem unsafeStringE_fine {ts : Array TypeId} {x n : AV} : Fine h (unsafeStringE P h ts x n) := by
  unfold unsafeStringE
  repeat' (first | exact fine_none | exact fine_w | exact fine_same (fun _ h => by cases h) | apply fine_cond | split)

theorem builtinE_fine {E : Env} {b : Builtin} {ts : Array TypeId} {ty : TypeId} {args : List AV} : Fine h (builtinE E h b ts ty args) := by
  unfold builtinE
  dsimp only
  repeat' (first | exact appendE_fine | exact copyE_fine | exact lenE_fine | exact capE_fine | exact clearE_fine | exact deleteE_fine | exact sliceDataE_fine | exact unsafeStringE_fine | exact fine_none | exact fine_same (fun _ h => by cases h) | split)

/-- Those that leave a class of reading or none. -/
def Free (r r2 : OpRes) (h h2 : Heap) : Prop := ∀ y h' s c, r = some (y, h', s, c) → (c = .skip ∨ c = .pure ∨ ∃ i, c = .rd (some i)) → HeapSame c h h2 → r2 = some (y, h2, none, c)

def NR (r : OpRes) : Prop := ∀ y h' s c, r = some (y, h', s, c) → c = .quiet ∨ c = .w
theorem nr_none : NR none := fun _ _ _ _ e => by cases e
theorem nr_q {y : AV} {h' : Heap} {s : Option (Nat × Bool)} : NR (some (y, h', s, .quiet)) := fun _ _ _ _ e => by
  simp only [Option.some.injEq, Prod.mk.injEq] at e
  exact .inl e.2.2.2.symm
theorem nr_w {y : AV} {h' : Heap} {s : Option (Nat × Bool)} : NR (some (y, h', s, .w)) := fun _ _ _ _ e => by
  simp only [Option.some.injEq, Prod.mk.injEq] at e
  exact .inr e.2.2.2.symm
theorem nr_cond {b : Bool} {r r' : OpRes} (h1 : NR r) (h2 : NR r') : NR (bif b then r else r') := by
  cases b
  · exact h2
  · exact h1
theorem appendE_nr {Z : List (TypeId × AV)} {ts : Array TypeId} {s x : AV} : NR (appendE P Z h ts s x) := by
  unfold appendE appendTo
  repeat' (first | exact nr_none | exact nr_w | exact nr_q | apply nr_cond | split)
theorem copyE_nr {ts : Array TypeId} {s x : AV} : NR (copyE P h ts s x) := by
  unfold copyE
  dsimp only
  repeat' (first | exact nr_none | exact nr_w | exact nr_q | apply nr_cond | split)
theorem clearE_nr {E : Env} {ts : Array TypeId} {x : AV} : NR (clearE E h ts x) := by
  unfold clearE
  repeat' (first | exact nr_none | exact nr_w | exact nr_q | apply nr_cond | split)
theorem NR.free {r r2 : OpRes} {h h2 : Heap} (n : NR r) : Free r r2 h h2 := fun y h' s c e hc _ => by
  rcases n _ _ _ _ e with rfl | rfl <;> rcases hc with hc | hc | ⟨_, hc⟩ <;> cases hc
theorem free_cond {b : Bool} {r r' q q' : OpRes} {h hh : Heap} (h1 : Free r q h hh) (h2 : Free r' q' h hh) : Free (bif b then r else r') (bif b then q else q') h hh := by
  cases b
  · exact h2
  · exact h1
theorem free_none {r : OpRes} {h h2 : Heap} : Free none r h h2 := fun _ _ _ _ e => by cases e
theorem free_same {y : AV} {c : Cl} {h h2 : Heap} : Free (some (y, h, none, c)) (some (y, h2, none, c)) h h2 := fun _ _ _ _ e _ _ => by
  simp only [Option.some.injEq, Prod.mk.injEq] at e
  obtain ⟨rfl, rfl, rfl, rfl⟩ := e
  rfl

theorem lenE_free {ts : Array TypeId} {x : AV} {h h2 : Heap} : Free (lenE P h ts x) (lenE P h2 ts x) h h2 := by
  unfold lenE
  split
  · split
    · exact free_same
    · split
      · exact free_same
      · exact free_none
    · exact free_same
    · exact free_same
    · exact free_same
    · intro y h' s c ho hc hh
      split at ho
      · rename_i es cl hr
        simp only [Option.some.injEq, Prod.mk.injEq] at ho
        obtain ⟨rfl, rfl, rfl, rfl⟩ := ho
        rw [show h2[_]? = h[_]? from hh, hr]
      · cases ho
    · exact free_none
  · exact free_none

theorem capE_free {ts : Array TypeId} {x : AV} {h h2 : Heap} : Free (capE P h ts x) (capE P h2 ts x) h h2 := by
  unfold capE
  split
  · split
    · exact free_same
    · exact free_same
    · exact free_same
    · rename_i e id gen off len hu
      intro y h' s c ho hc hh
      split at ho
      · rename_i k g els ex hr
        cases hb : (Nat.beq g gen && ex.full) with
        | false => simp [hb] at ho
        | true =>
          simp only [hb, cond_true, Option.some.injEq, Prod.mk.injEq] at ho
          obtain ⟨rfl, rfl, rfl, rfl⟩ := ho
          rw [show h2[_]? = h[_]? from hh, hr]
          simp only [hb, cond_true]
      · cases ho
    · exact free_none
  · exact free_none

theorem deleteE_free {E : Env} {ts : Array TypeId} {m k : AV} {h h2 : Heap} : Free (deleteE E h ts m k) (deleteE E h2 ts m k) h h2 := by
  unfold deleteE
  split
  · split
    · intro y h' s c ho hc hh
      split at ho
      · rename_i es cl hr
        split at ho
        · simp only [Option.some.injEq, Prod.mk.injEq] at ho
          obtain ⟨rfl, rfl, rfl, rfl⟩ := ho
          rcases hc with hc | hc | ⟨_, hc⟩ <;> cases hc
        · rename_i hf
          simp only [Option.some.injEq, Prod.mk.injEq] at ho
          obtain ⟨rfl, rfl, rfl, rfl⟩ := ho
          rw [show h2[_]? = h[_]? from hh, hr]
          simp only [hf]
        · cases ho
      · cases ho
    · exact free_none
  · exact free_none

theorem sliceDataE_free {x : AV} {h h2 : Heap} : Free (sliceDataE h x) (sliceDataE h2 x) h h2 := by
  unfold sliceDataE
  split
  · exact free_same
  · intro y h' s c ho hc hh
    split at ho
    · rename_i gen off len _ k g els ex hr
      cases hb : (Nat.beq g gen && Nat.blt off els.length) with
      | false => simp [hb] at ho
      | true =>
        simp only [hb, cond_true, Option.some.injEq, Prod.mk.injEq] at ho
        obtain ⟨rfl, rfl, rfl, rfl⟩ := ho
        rw [show h2[_]? = h[_]? from hh, hr]
        simp only [hb, cond_true]
    · cases ho
  · exact free_none

theorem unsafeStringE_free {ts : Array TypeId} {x n : AV} {h h2 : Heap} : Free (unsafeStringE P h ts x n) (unsafeStringE P h2 ts x n) h h2 := by
  unfold unsafeStringE
  split
  · refine free_cond ?_ ?_
    · split
      · exact free_same
      · exact free_same
      · exact free_none
    · split
      · refine NR.free ?_
        repeat' (first | exact nr_none | exact nr_w | exact nr_q | apply nr_cond | split)
      · exact free_none
  · exact free_none

theorem builtinE_free {E : Env} {b : Builtin} {ts : Array TypeId} {ty : TypeId} {args : List AV} {h h2 : Heap} : Free (builtinE E h b ts ty args) (builtinE E h2 b ts ty args) h h2 := by
  unfold builtinE
  dsimp only
  split
  · exact appendE_nr.free
  · exact copyE_nr.free
  · exact lenE_free
  · exact capE_free
  · exact clearE_nr.free
  · exact deleteE_free
  all_goals first | exact sliceDataE_free | exact unsafeStringE_free | exact free_none | (repeat' (first | exact free_none | exact free_same | split))

/-! ### One operation -/
theorem coreO_calm {E : Env} {K : CallK} (hQ : QuietK K) {f : FuncId} {o : Oper} {x : Out} (ho : coreO E K f o fr h = some x) : Calm x h := by
  have out : ∀ {y : AV} {h' : Heap} {s : Option (Nat × Bool)} {c : Cl}, (noisy c = false → h' = h ∧ s = none) → (∀ id, c = .st id → ∀ j, j ≠ id → h'[j]? = h[j]?) → outOf y h' s c = x → Calm x h := by
    intro y h' s c g1 g2 e
    subst e
    refine ⟨fun hc => ?_, fun id hc => ?_⟩
    · have hc' : noisy c = false := by cases s <;> exact hc
      obtain ⟨rfl, rfl⟩ := g1 hc'
      exact ⟨rfl, rfl, rfl⟩
    · have hc' : c = .st id := by cases s <;> exact hc
      have := g2 id hc'
      cases s <;> exact this
  unfold coreO at ho
  split at ho
  · rename_i c hop
    split at ho
    · split at ho
      · split at ho
        · rename_i y h' s cl hb
          injection ho with ho
          obtain ⟨f1, f2⟩ := builtinE_fine _ _ _ _ hb
          exact out f1 (fun id hc => (f2 id hc).elim) ho
        · cases ho
      · cases ho
    · split at ho
      · split at ho
        · rename_i y h' e hk
          injection ho with ho
          subst ho
          refine ⟨fun hc => ?_, fun id hc => ?_⟩
          · cases hq : e.q with
            | true => exact hQ _ _ _ _ _ _ hk hq
            | false => simp [hq, noisy] at hc
          · cases hq : e.q <;> simp [hq] at hc
        · cases ho
      · cases ho
  · split at ho
    · split at ho
      · injection ho with ho
        exact out (fun hc => by cases hc) (fun id hc => by cases hc) ho
      · cases ho
    · cases ho
  · split at ho
    · split at ho
      · injection ho with ho
        exact out (fun hc => by cases hc) (fun id hc => by cases hc) ho
      · cases ho
    · cases ho
  · split at ho
    · split at ho
      · injection ho with ho
        refine out (fun hc => ⟨rfl, rfl⟩) (fun id hc => ?_) ho
        split at hc <;> cases hc
      · cases ho
    · cases ho
  · split at ho
    · rename_i y h' s hp
      injection ho with ho
      exact out (opE_free_out hp) (fun id hc => opE_st_out hp hc) ho
    · cases ho

theorem coreO_free {E : Env} {K : CallK} (hQ : QuietK K) {f : FuncId} {o : Oper} {x : Out} {h2 : Heap} (ho : coreO E K f o fr h = some x) (hc : noisy x.c = false) (hh : HeapSame x.c h h2) :
    coreO E K f o fr h2 = some { x with h := h2 } := by
  by_cases he : h2 = h
  · subst he
    rw [ho]
    obtain ⟨e, _⟩ := (coreO_calm hQ ho).quiet hc
    cases x
    simp only at e
    subst e
    rfl
  have hcl : ∀ c, HeapSame c h h2 → noisy c = false → c = .skip ∨ c = .pure ∨ ∃ i, c = .rd (some i) := by
    intro c g1 g2
    cases c with
    | skip => exact .inl rfl
    | pure => exact .inr (.inl rfl)
    | rd i => cases i with
      | none => exact (he g1).elim
      | some i => exact .inr (.inr ⟨i, rfl⟩)
    | quiet => exact (he g1).elim
    | st id => cases g2
    | w => cases g2
  have out : ∀ {y : AV} {h' : Heap} {s : Option (Nat × Bool)} {c : Cl}, outOf y h' s c = x → x.c = c := by
    intro y h' s c e
    subst e
    cases s <;> rfl
  obtain ⟨dst, op, type, pos, after, guard⟩ := o
  cases op
  case call c =>
    simp only [coreO] at ho ⊢
    split at ho
    · rename_i b hb
      split at ho
      · rename_i l hl
        split at ho
        · rename_i y h' s cl hbu
          injection ho with ho
          have ec := out ho
          rw [ec] at hc hh
          obtain ⟨f1, f2⟩ := builtinE_fine _ _ _ _ hbu
          obtain ⟨rfl, rfl⟩ := f1 hc
          have := builtinE_free (h2 := h2) _ _ _ _ hbu (hcl _ hh hc) hh
          rw [this]
          subst ho
          rfl
        · cases ho
      · cases ho
    · split at ho
      · split at ho
        · rename_i y h' e hk
          injection ho with ho
          subst ho
          exfalso
          cases hq : e.q with
          | true => simp only [hq, cond_true] at hh; exact he hh
          | false => simp [hq, noisy] at hc
        · cases ho
      · cases ho
  case mapUpdate t m k v =>
    simp only [coreO] at ho
    exfalso
    split at ho
    · split at ho
      · injection ho with ho
        rw [out ho] at hc
        cases hc
      · cases ho
    · cases ho
  case insert t m k v =>
    simp only [coreO] at ho
    exfalso
    split at ho
    · split at ho
      · injection ho with ho
        rw [out ho] at hc
        cases hc
      · cases ho
    · cases ho
  case lookup t m k ok =>
    simp only [coreO] at ho ⊢
    split at ho
    · rename_i m' k' e1 e2
      split at ho
      · rename_i y hy
        injection ho with ho
        have ec := out ho
        rw [ec] at hc hh
        have : lookupE E h2 t m' k' ok = lookupE E h t m' k' ok := by
          cases m' with
          | map id =>
            have hh : h2[id]? = h[id]? := hh
            unfold lookupE
            simp only [hh]
          | v z => cases z with
            | map q => cases q <;> simp only [lookupE]
            | _ => simp only [lookupE]
          | _ => simp only [lookupE]
        rw [this, hy]
        subst ho
        rfl
      · cases ho
    · cases ho
  all_goals
    simp only [coreO] at ho ⊢
    split at ho
    · rename_i y h' s hp
      injection ho with ho
      have ec := out ho
      rw [ec] at hc hh
      obtain ⟨rfl, rfl⟩ := opE_free_out hp hc
      rw [opE_free hc hh, hp]
      subst ho
      rfl
    · cases ho

end Go.AM

set_option linter.unusedVariables false
set_option linter.unusedSimpArgs false
namespace Go.AM
open Go

variable {F : Fz} {m : Mp} {fr : FR} {a : Act} {h : Heap} {w : World} {P : Program}

/-! ### What an order must keep -/
def edgesOf (o : Oper) : List Nat := (o.after.toList.filter (Region.binds .any)).map (·.on)
def bitsOf (acc : List Nat) (o : Oper) : Nat := (edgesOf o).foldl (fun b e => Nat.lor b (Nat.lor (2 ^ e) (acc.getD e 0))) 0
def reachL : List Oper → List Nat → List Nat
  | [], acc => acc
  | o :: os, acc => reachL os (acc ++ [bitsOf acc o])

def stat (o : Oper) : Nat := match o.op with
  | .move _ | .assign _ | .pick _ _ _ | .build _ _ | .nilCheck _ | .binOp _ _ _ _ _ | .unOp _ _ _ | .makeFunc _ _ _ | .fieldAddr _ _ _ | .field _ _ _ | .index _ _ _ | .extract _ _ => 0
  | .load _ _ | .lookup _ _ _ _ | .convert _ _ _ | .slice _ _ _ _ _ | .indexAddr _ _ _ => 1
  | .call c => match c.callee with
    | .builtin b => match b with
      | .len | .cap | .min | .max | .real | .imag | .complex => 1
      | _ => 2
    | _ => 2
  | _ => 2

def hasPair (i j : Nat) : List (Nat × Nat) → Bool
  | [] => false
  | (a, b) :: r => (Nat.beq a i && Nat.beq b j) || hasPair i j r

def pairOK (ops : Array Oper) (prs : List (Nat × Nat)) (i j : Nat) (x y : Oper) : Bool :=
  x.apart ops y && (Nat.beq (stat x) 0 || Nat.beq (stat y) 0 || (Nat.ble (stat x) 1 && Nat.ble (stat y) 1) || hasPair i j prs)

def rowOK (ops : Array Oper) (prs : List (Nat × Nat)) (b j : Nat) (y : Oper) : Nat → List Oper → Bool
  | _, [] => true
  | i, x :: l => (bif Nat.blt i j then (b.testBit i || pairOK ops prs i j x y) else true) && rowOK ops prs b j y (i + 1) l

def allOK (ops : Array Oper) (prs : List (Nat × Nat)) (R : List Nat) : Nat → List Oper → Bool
  | _, [] => true
  | j, y :: l => (edgesOf y).all (fun e => Nat.blt e j) && rowOK ops prs (R.getD j 0) j y 0 ops.toList && allOK ops prs R (j + 1) l

def drawOK (ops : Array Oper) (prs : List (Nat × Nat)) : Bool := allOK ops prs (reachL ops.toList []) 0 ops.toList

def Closed (ops : Array Oper) (S : Nat → Bool) : Prop := ∀ i o, ops[i]? = some o → S i = true → ∀ e ∈ edgesOf o, S e = true

theorem bits_foldl (acc : List Nat) (j : Nat) : ∀ (l : List Nat) (b : Nat), (l.foldl (fun b e => Nat.lor b (Nat.lor (2 ^ e) (acc.getD e 0))) b).testBit j = true →
    b.testBit j = true ∨ ∃ e ∈ l, j = e ∨ (acc.getD e 0).testBit j = true
  | [], b, h => .inl h
  | e :: l, b, h => by
    rw [List.foldl_cons] at h
    rcases bits_foldl acc j l _ h with h | ⟨e', h1, h2⟩
    · change (b ||| (2 ^ e ||| acc.getD e 0)).testBit j = true at h
      rw [Nat.testBit_or, Nat.testBit_or, Nat.testBit_two_pow] at h
      simp only [Bool.or_eq_true, decide_eq_true_eq] at h
      rcases h with h | h | h
      · exact .inl h
      · exact .inr ⟨e, by simp, .inl h.symm⟩
      · exact .inr ⟨e, by simp, .inr h⟩
    · exact .inr ⟨e', by simp [h1], h2⟩

def ReachInv (ops : Array Oper) (acc : List Nat) : Prop := ∀ (i b : Nat) (o : Oper), acc[i]? = some b → ops[i]? = some o → ∀ S, Closed ops S → (∀ e ∈ edgesOf o, S e = true) → ∀ j, b.testBit j = true → S j = true

theorem reachL_inv (ops : Array Oper) : ∀ (os : List Oper) (acc : List Nat), (∀ j, os[j]? = ops[acc.length + j]?) → acc.length ≤ ops.size → ReachInv ops acc → ReachInv ops (reachL os acc)
  | [], acc, _, _, h => h
  | o :: os, acc, ho, hs, h => by
    have h0 : ops[acc.length]? = some o := by have := ho 0; simpa using this.symm
    refine reachL_inv ops os _ (fun j => ?_) ?_ ?_
    · have := ho (j + 1)
      rw [List.getElem?_cons_succ] at this
      rw [this]
      simp only [List.length_append, List.length_singleton]
      congr 1
      omega
    · have := (Array.getElem?_eq_some_iff.1 h0).1
      simp only [List.length_append, List.length_singleton]
      omega
    · intro i b o' hb ho' S hS he j hj
      rcases Nat.lt_or_ge i acc.length with hi | hi
      · rw [List.getElem?_append_left hi] at hb
        exact h i b o' hb ho' S hS he j hj
      · rw [List.getElem?_append_right hi] at hb
        have hi0 : i - acc.length = 0 := by
          rcases Nat.eq_zero_or_pos (i - acc.length) with h | h
          · exact h
          · rw [List.getElem?_eq_none (by simp; omega)] at hb; cases hb
        have : i = acc.length := by omega
        subst this
        rw [h0] at ho'
        injection ho' with ho'
        subst ho'
        rw [hi0] at hb
        simp only [List.getElem?_cons_zero, Option.some.injEq] at hb
        subst hb
        rcases bits_foldl acc j _ _ hj with hz | ⟨e, e1, e2⟩
        · simp at hz
        · have se := he e e1
          rcases e2 with rfl | e2
          · exact se
          · cases hg : acc[e]? with
            | none => rw [List.getD_eq_getElem?_getD, hg] at e2; simp at e2
            | some b' =>
              rw [List.getD_eq_getElem?_getD, hg] at e2
              have hlt : e < acc.length := (List.getElem?_eq_some_iff.1 hg).1
              have hoe : ops[e]? = some ops[e] := Array.getElem?_eq_getElem (by omega)
              exact h e b' _ hg hoe S hS (hS e _ hoe se) j e2

theorem reachL_len : ∀ (os : List Oper) (acc : List Nat), (reachL os acc).length = acc.length + os.length
  | [], acc => rfl
  | o :: os, acc => by simp [reachL, reachL_len os]; omega

theorem rowOK_spec {ops : Array Oper} {prs : List (Nat × Nat)} {b j : Nat} {y : Oper} : ∀ (l : List Oper) (i0 : Nat), rowOK ops prs b j y i0 l = true → ∀ k x, l[k]? = some x → i0 + k < j → b.testBit (i0 + k) = true ∨ pairOK ops prs (i0 + k) j x y = true
  | [], _, _, k, x, hx, _ => by simp at hx
  | z :: l, i0, h, k, x, hx, hlt => by
    simp only [rowOK, Bool.and_eq_true] at h
    cases k with
    | zero =>
      simp only [List.getElem?_cons_zero, Option.some.injEq] at hx
      subst hx
      have hb : Nat.blt i0 j = true := by simpa [Nat.blt_eq] using hlt
      have := h.1
      rw [hb] at this
      simpa using this
    | succ k =>
      rw [List.getElem?_cons_succ] at hx
      have := rowOK_spec l (i0 + 1) h.2 k x hx (by omega)
      rw [show i0 + (k + 1) = i0 + 1 + k by omega]
      exact this

theorem allOK_spec {ops : Array Oper} {prs : List (Nat × Nat)} {R : List Nat} : ∀ (l : List Oper) (j0 : Nat), allOK ops prs R j0 l = true → ∀ k y, l[k]? = some y →
    (∀ e ∈ edgesOf y, e < j0 + k) ∧ rowOK ops prs (R.getD (j0 + k) 0) (j0 + k) y 0 ops.toList = true
  | [], _, _, k, x, hx => by simp at hx
  | z :: l, j0, h, k, y, hy => by
    simp only [allOK, Bool.and_eq_true] at h
    cases k with
    | zero =>
      simp only [List.getElem?_cons_zero, Option.some.injEq] at hy
      subst hy
      refine ⟨fun e he => ?_, h.1.2⟩
      have := List.all_eq_true.1 h.1.1 e he
      simpa [Nat.blt_eq] using this
    | succ k =>
      rw [List.getElem?_cons_succ] at hy
      have := allOK_spec l (j0 + 1) h.2 k y hy
      rw [show j0 + (k + 1) = j0 + 1 + k by omega]
      exact this

/-- What the check gives. -/
theorem drawOK_spec {ops : Array Oper} {prs : List (Nat × Nat)} (h : drawOK ops prs = true) {j : Nat} {y : Oper} (hy : ops[j]? = some y) :
    (∀ e ∈ edgesOf y, e < j) ∧ ∀ i x, ops[i]? = some x → i < j → pairOK ops prs i j x y = true ∨ ∀ S, Closed ops S → (∀ e ∈ edgesOf y, S e = true) → S i = true := by
  have hy' : ops.toList[j]? = some y := by simpa using hy
  obtain ⟨h1, h2⟩ := allOK_spec ops.toList 0 h j y hy'
  rw [Nat.zero_add] at h1 h2
  refine ⟨h1, fun i x hx hlt => ?_⟩
  have hx' : ops.toList[i]? = some x := by simpa using hx
  have := rowOK_spec ops.toList 0 h2 i x hx' (by omega)
  rw [Nat.zero_add] at this
  rcases this with h | h
  · right
    intro S hS he
    have hj : j < (reachL ops.toList []).length := by rw [reachL_len]; have := (Array.getElem?_eq_some_iff.1 hy).1; simpa using this
    have hg : (reachL ops.toList [])[j]? = some ((reachL ops.toList []).getD j 0) := by
      rw [List.getD_eq_getElem?_getD, List.getElem?_eq_getElem hj]; rfl
    exact reachL_inv ops ops.toList [] (fun k => by simp) (by simp) (fun i b o hb => by simp at hb) j _ y hg hy S hS he i h
  · exact .inl h

end Go.AM
