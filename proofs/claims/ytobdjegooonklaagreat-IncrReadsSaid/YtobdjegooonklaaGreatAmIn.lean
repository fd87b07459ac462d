/- Regions without calls, in a round of a range over a function too. Conditions: none. -/
import Derived.Test.YtobdjegooonklaaGreatAmCall
import Derived.RangeFuncRecord
set_option linter.unusedVariables false
set_option linter.unusedSimpArgs false
namespace Go.AM
open Go

variable {F F' : Fz} {m m' : Mp} {fr : FR} {a : Act} {h : Heap} {w : World} {P : Program}

def noK : CallK := fun _ _ _ => none

theorem coreO_good {E : Env} (hE : E.ZerosOK) (r : Rel F m h w) (hf : FRel F m fr a.tmps) {f : FuncId} {o : Oper} {x : Out} (ho : coreO E noK f o fr h = some x) : Good E.P F m w x.y x.h (execOp a.eval o) := by
  unfold coreO at ho
  split at ho
  · rename_i c hop
    split at ho
    · rename_i b hc
      split at ho
      · rename_i l hl
        split at ho
        · rename_i y h' s cl hb
          injection ho with ho
          obtain ⟨e1, e2, e3⟩ := outOf_eq ho
          rw [e1, e2]
          have hv := evL_rel hf hl
          have g := builtinE_sound (cn := c.args.map fun | .const _ => true | _ => false) hE r hb hv
          have : execOp a.eval o = builtin b c.argTypes o.type (c.args.map fun | .const _ => true | _ => false) (c.args.toList.map a.eval).toArray := by
            unfold execOp
            rw [hop]
            have e4 : c.args.map a.eval = (c.args.toList.map a.eval).toArray := (map_toArray a.eval c.args _ rfl).symm
            simp only [resolve, hc, e4]
            rfl
          rw [this]
          exact g
        · cases ho
      · cases ho
    · split at ho
      · cases ho
      · cases ho
  · rename_i t mo ko xo hop
    split at ho
    · rename_i mp k z e1 e2 e3
      split at ho
      · rename_i h' id hu
        injection ho with ho
        obtain ⟨g1, g2, g3⟩ := outOf_eq ho
        rw [g1, g2]
        obtain ⟨w', u1, u2, u3⟩ := updateE_run r (ev_rel hf e1) (ev_rel hf e2) (ev_rel hf e3) hu
        exact ⟨undef, .skip, w', F, m, by unfold execOp; rw [hop]; simp [u1], .inr ⟨rfl, rfl⟩, Ext.refl _ _, by simp [VRel, VL, undef], u2, u3⟩
      · cases ho
    · cases ho
  · rename_i t mo ko xo hop
    split at ho
    · rename_i mp k z e1 e2 e3
      split at ho
      · rename_i h' id hu
        injection ho with ho
        obtain ⟨g1, g2, g3⟩ := outOf_eq ho
        rw [g1, g2]
        obtain ⟨w', u1, u2, u3⟩ := updateE_run r (ev_rel hf e1) (ev_rel hf e2) (ev_rel hf e3) hu
        exact ⟨undef, .skip, w', F, m, by unfold execOp; rw [hop]; simp [u1], .inr ⟨rfl, rfl⟩, Ext.refl _ _, by simp [VRel, VL, undef], u2, u3⟩
      · cases ho
    · cases ho
  · rename_i t mo ko ok hop
    split at ho
    · rename_i mp k e1 e2
      split at ho
      · rename_i y hy
        injection ho with ho
        obtain ⟨g1, g2, g3⟩ := outOf_eq ho
        rw [g1, g2]
        obtain ⟨v, v1, v2⟩ := lookupE_run hE r (ev_rel hf e1) (ev_rel hf e2) hy
        exact ⟨v, .value v, w, F, m, by unfold execOp; rw [hop]; simp [v1], .inl rfl, Ext.refl _ _, v2, r, Same.refl _⟩
      · cases ho
    · cases ho
  · split at ho
    · rename_i y h' s hp
      injection ho with ho
      obtain ⟨g1, g2, g3⟩ := outOf_eq ho
      rw [g1, g2]
      exact opE_sound hE r hf hp
    · cases ho

theorem coreO_plain {E : Env} {f : FuncId} {o : Oper} {x : Out} (ho : coreO E noK f o fr h = some x) : ∀ c, o.op ≠ .defer c := by
  intro c hc
  obtain ⟨dst, op, type, pos, after, guard⟩ := o
  simp only at hc
  subst hc
  simp [coreO, opE] at ho

/-- As SRel, of frames that have calls deferred. -/
structure SRl (F : Fz) (m : Mp) (nt : Nat) (st : St) (a : Act) (w : World) : Prop where
  rel : Rel F m st.h w
  fr : FRel F m st.fr a.tmps
  size : a.tmps.size = nt

theorem SRl.next {nt : Nat} {st : St} (s : SRl F m nt st a w) {F' : Fz} {m' : Mp} {w' : World} {dst : Option Tmp} {y : AV} {v : Value} {fr' : FR} {h' : Heap} {ds ls : List Nat} (he : Ext F m F' m') (hp : putF nt st.fr dst y = some fr') (hv : VRel F' m' y v)
    (hr : Rel F' m' h' w') : SRl F' m' nt ⟨fr', h', ds, ls⟩ (a.put dst v) w' := by
  obtain ⟨g1, g2, g3⟩ := put_rel_F (s.fr.mono he) s.size hp hv
  exact ⟨hr, g1, g2⟩

theorem put_defers (a : Act) (dst : Option Tmp) (v : Value) : (a.put dst v).defers = a.defers := by cases dst <;> rfl

/-- What operations leave of the temporaries. -/
structure KeepT (os : List Oper) (a a' : Act) : Prop where
  defers : a'.defers = a.defers
  tmps : ∀ t, (∀ o ∈ os, o.dst ≠ some t) → a'.tmps[t]? = a.tmps[t]?

theorem KeepT.nil (a : Act) : KeepT [] a a := ⟨rfl, fun _ _ => rfl⟩

theorem put_other (a : Act) (dst : Option Tmp) (v : Value) (t : Nat) (h : dst ≠ some t) : (a.put dst v).tmps[t]? = a.tmps[t]? := by
  cases dst with
  | none => rfl
  | some d =>
    have hne : d ≠ t := fun e => h (by rw [e])
    simp [Act.put, Array.getElem?_setIfInBounds_ne hne]

theorem KeepT.cons {o : Oper} {os : List Oper} {a a1 a2 : Act} (h1 : ∃ v, a1 = a.put o.dst v) (h2 : KeepT os a1 a2) : KeepT (o :: os) a a2 := by
  obtain ⟨v, rfl⟩ := h1
  refine ⟨h2.defers.trans (put_defers _ _ _), fun t ht => ?_⟩
  rw [h2.tmps t fun o' ho' => ht o' (by simp [ho']), put_other a o.dst v t (ht o (by simp))]

/-- One operation in whatever frame. -/
theorem stepO_inT {Fc : Fence} {n : Nat} (hF : ∀ f, Fc.fn f) {E : Env} (hE : E.ZerosOK) {f : FuncId} {nt n0 : Nat} {ops : Array Oper} {i : Nat} {rest : List Nat} {o : Oper} (hi : ops[i]? = some o) {st st' : St} {c : Cl} (hs : stepO E noK f nt n0 ops o st = some (st', c)) (s : SRl F m nt st a w)
    {Q : Exit → Act → World → Prop} (hn : ∀ a' w' F' m', Ext F m F' m' → SRl F' m' nt st' a' w' → (∃ v, a' = a.put o.dst v) → Same w w' → wpOpsIn Fc n E.P ops Q rest a' w') : wpOpsIn Fc n E.P ops Q (i :: rest) a w := by
  simp only [wpOpsIn, hi]
  unfold stepO at hs
  split at hs
  · rename_i hw
    rw [wantedE_rel s.fr hw]
    split at hs
    · rename_i fr' hp
      simp only [Option.some.injEq, Prod.mk.injEq] at hs
      obtain ⟨rfl, rfl⟩ := hs
      simp only [Bool.false_eq_true, if_false]
      exact ⟨fun f _ => hF f, hn _ _ F m (Ext.refl _ _) (s.next (Ext.refl _ _) hp (by simp [VRel, VL, undef]) s.rel) ⟨_, rfl⟩ (Same.refl _)⟩
    · cases hs
  · rename_i hw
    rw [wantedE_rel s.fr hw]
    split at hs
    · rename_i x hx
      split at hs
      · rename_i fr' hp
        simp only [Option.some.injEq, Prod.mk.injEq] at hs
        obtain ⟨rfl, rfl⟩ := hs
        simp only [if_true]
        refine ⟨fun f _ => hF f, ?_⟩
        rw [Oper.semAt_eq _ _ _ (coreO_plain hx)]
        obtain ⟨v, nx, w', F', m', h1, h2, h3, h4, h5, h6⟩ := coreO_good hE s.rel s.fr hx
        rw [h1]
        have key := hn _ w' F' m' h3 (s.next h3 hp h4 h5) ⟨_, rfl⟩ h6
        rcases h2 with rfl | ⟨rfl, rfl⟩
        · exact key
        · exact key
      · cases hs
    · cases hs
  · cases hs

theorem runOps_inT {Fc : Fence} {n : Nat} (hF : ∀ f, Fc.fn f) {E : Env} (hE : E.ZerosOK) {f : FuncId} {nt n0 : Nat} {ops : Array Oper} {Q : Exit → Act → World → Prop} {st' : St} {cs' : List Cl} {rest : List Nat} :
    ∀ (os : List Oper) (i : Nat) (st : St) (cs : List Cl) (F : Fz) (m : Mp) (a : Act) (w : World), (∀ j, j < os.length → os[j]? = ops[i + j]?) → runOps E noK f nt n0 ops os st cs = some (st', cs') → SRl F m nt st a w →
      (∀ a' w' F' m', Ext F m F' m' → SRl F' m' nt st' a' w' → KeepT os a a' → Same w w' → wpOpsIn Fc n E.P ops Q rest a' w') → wpOpsIn Fc n E.P ops Q (List.range' i os.length ++ rest) a w
  | [], i, st, cs, F, m, a, w, _, hs, s, hq => by
    simp only [runOps, Option.some.injEq, Prod.mk.injEq] at hs
    obtain ⟨rfl, rfl⟩ := hs
    exact hq a w F m (Ext.refl _ _) s (KeepT.nil a) (Same.refl _)
  | o :: os, i, st, cs, F, m, a, w, ho, hs, s, hq => by
    simp only [runOps] at hs
    split at hs
    · rename_i st1 c hstep
      have hi : ops[i]? = some o := by have := ho 0 (by simp); simpa using this.symm
      rw [List.length_cons, List.range'_succ, List.cons_append]
      refine stepO_inT hF hE hi hstep s fun a' w' F' m' he s' hd hsm => ?_
      refine runOps_inT hF hE os (i + 1) st1 (c :: cs) F' m' a' w' (fun j hj => ?_) hs s' fun a2 w2 F2 m2 he2 s2 hd2 hsm2 => hq a2 w2 F2 m2 (he.trans he2) s2 (KeepT.cons hd hd2) (hsm.trans hsm2)
      have := ho (j + 1) (by simp; omega)
      rw [List.getElem?_cons_succ] at this
      rw [this]
      congr 1
      omega
    · cases hs

/-- A region without calls, and the temporaries that it leaves. -/
theorem region_inT {Fc : Fence} {n : Nat} (hF : ∀ f, Fc.fn f) {E : Env} (hE : E.ZerosOK) {f : FuncId} {nt n0 : Nat} {id : Nat} {ops : Array Oper} {Q : Exit → Act → World → Prop} {st st' : St} {cs : List Cl}
    (hr : runOps E noK f nt n0 ops ops.toList st [] = some (st', cs)) (s : SRl F m nt st a w)
    (hq : ∀ a' w' F' m', Ext F m F' m' → SRl F' m' nt st' a' w' → KeepT ops.toList a a' → Same w w' → Q .normal a' w') : (Code.region id ops false).wpIn Fc n E.P Q a w := by
  refine wpIn_region ?_
  have := runOps_inT (Fc := Fc) (n := n) (Q := Q) (rest := []) hF hE ops.toList 0 st [] F m a w (fun j _ => by simp) hr s hq
  rw [List.range_eq_range']
  simpa using this

/-- A region without calls. -/
theorem region_in {Fc : Fence} {n : Nat} (hF : ∀ f, Fc.fn f) {E : Env} (hE : E.ZerosOK) {f : FuncId} {nt n0 : Nat} {id : Nat} {ops : Array Oper} {Q : Exit → Act → World → Prop} {st st' : St} {cs : List Cl}
    (hr : runOps E noK f nt n0 ops ops.toList st [] = some (st', cs)) (s : SRl F m nt st a w)
    (hq : ∀ a' w' F' m', Ext F m F' m' → SRl F' m' nt st' a' w' → a'.defers = a.defers → Same w w' → Q .normal a' w') : (Code.region id ops false).wpIn Fc n E.P Q a w :=
  region_inT hF hE hr s fun a' w' F' m' he s' hk hsm => hq a' w' F' m' he s' hk.defers hsm

/-! ### Objects beside the rows -/
/-- An object that is no cells, turned. -/
theorem Rel.swap (r : Rel F m h w) {b : Nat} {o o' : Obj} (hb : F b = some o) (ho : ∀ c e f, o ≠ .cells c e f) {w' : World} (hw : ∀ c, c ≠ b → w'.heap[c]? = w.heap[c]?) (hb' : w'.heap[b]? = some o') : Rel (Fz.add F b o') m h w' := by
  have mv : Move h.length F m (Fz.add F b o') m := by
    refine ⟨fun c x e f hc => ?_, fun _ _ _ _ hx => hx, fun _ _ _ hx => hx⟩
    unfold Fz.add
    by_cases e0 : c = b
    · subst e0; rw [hb] at hc; injection hc with hc; exact (ho _ _ _ hc).elim
    · rw [if_neg e0]; exact hc
  refine ⟨fun c x hc => ?_, fun id k gen els ex hi => ?_, fun id es c hi => ?_, r.fresh, r.freshM, r.inj, r.injM⟩
  · unfold Fz.add at hc
    split at hc
    · rename_i e0; injection hc with hc; subst e0; subst hc; exact hb'
    · rename_i e0; rw [hw c e0]; exact r.fz c x hc
  · obtain ⟨g, C, t, cur, x⟩ := r.row id k gen els ex hi
    have hg : g ≠ b := fun e0 => by subst e0; rw [x.own] at hb; cases hb
    have hl := r.rowLt hi
    simp only [AM.rowLt] at hl
    exact ⟨g, C, t, cur, ⟨x.mp, x.pos, by rw [hw g hg]; exact x.heap, by unfold Fz.add; rw [if_neg hg]; exact x.own, x.size, x.len, x.exact, x.ty, x.most, x.all, CL.move mv _ _ hl x.cells, x.gens⟩⟩
  · obtain ⟨g, ents, x⟩ := r.map id es c hi
    have hg : g ≠ b := fun e0 => by subst e0; rw [x.own] at hb; cases hb
    have hl := r.rowLt hi
    simp only [AM.rowLt] at hl
    exact ⟨g, ents, ⟨x.mp, by rw [hw g hg]; exact x.heap, by unfold Fz.add; rw [if_neg hg]; exact x.own, EntR_move mv hl x.ents⟩⟩

/-- The same of a value. -/
theorem VRel.swap (r : Rel F m h w) {b : Nat} {o : Obj} (o' : Obj) (hb : F b = some o) (ho : ∀ c e f, o ≠ .cells c e f) {x : AV} {v : Value} (hv : VRel F m x v) : VRel (Fz.add F b o') m x v := by
  refine VRel.move (n := h.length) ⟨fun c z e f hc => ?_, fun _ _ _ _ hx => hx, fun _ _ _ hx => hx⟩ x v (VRel.lt r.fresh r.freshM x v hv) hv
  unfold Fz.add
  by_cases e0 : c = b
  · subst e0; rw [hb] at hc; injection hc with hc; exact (ho _ _ _ hc).elim
  · rw [if_neg e0]; exact hc

/-- Blocks turned of which nothing is told. -/
theorem Rel.later (r : Rel F m h w) {w' : World} (hw : ∀ b, b < w.heap.size → w'.heap[b]? = w.heap[b]?) : Rel F m h w' := by
  have lt : ∀ {b : Nat} {o : Obj}, w.heap[b]? = some o → b < w.heap.size := fun hb => (Array.getElem?_eq_some_iff.1 hb).1
  refine ⟨fun b o hb => by rw [hw b (lt (r.fz b o hb))]; exact r.fz b o hb, fun id k gen els ex hi => ?_, fun id es c hi => ?_, r.fresh, r.freshM, r.inj, r.injM⟩
  · obtain ⟨g, C, t, cur, x⟩ := r.row id k gen els ex hi
    exact ⟨g, C, t, cur, ⟨x.mp, x.pos, by rw [hw g (lt x.heap)]; exact x.heap, x.own, x.size, x.len, x.exact, x.ty, x.most, x.all, x.cells, x.gens⟩⟩
  · obtain ⟨g, ents, x⟩ := r.map id es c hi
    exact ⟨g, ents, ⟨x.mp, by rw [hw g (lt x.heap)]; exact x.heap, x.own, x.ents⟩⟩

end Go.AM
