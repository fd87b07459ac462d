/- Regions without calls, in a round of a range over a function too. Conditions: none. -/
import Derived.Test.YtobdjegooonklaaGreatAmLaw
import Derived.RangeFuncRecord
import Derived.Test.YtobdjegooonklaaGreatAmOv
import Derived.Lib.BytesEntry
import Derived.TacticsIn
set_option linter.unusedVariables false
set_option linter.unusedSimpArgs false
namespace Go.AM
open Go

variable {F F' : Fz} {m m' : Mp} {fr : FR} {a : Act} {h : Heap} {w : World} {P : Program}

def noK : CallK := fun _ _ _ => none

theorem coreO_good {E : Env} (hE : E.ZerosOK) (r : Rel F m h w) (hf : FRel F m fr a.tmps) {f : FuncId} {o : Oper} {x : Out} (ho : coreO E noK f o fr h = some x) : Good E.P F m w x.y x.h (execOp a.eval o) := by
  unfold coreO at ho
  split at ho
  · rename_i c hop
    split at ho
    · rename_i b hc
      split at ho
      · rename_i l hl
        split at ho
        · rename_i y h' s cl hb
          injection ho with ho
          obtain ⟨e1, e2, e3⟩ := outOf_eq ho
          rw [e1, e2]
          have hv := evL_rel hf hl
          have g := builtinE_sound (cn := c.args.map fun | .const _ => true | _ => false) hE r hb hv
          have : execOp a.eval o = builtin b c.argTypes o.type (c.args.map fun | .const _ => true | _ => false) (c.args.toList.map a.eval).toArray := by
            unfold execOp
            rw [hop]
            have e4 : c.args.map a.eval = (c.args.toList.map a.eval).toArray := (map_toArray a.eval c.args _ rfl).symm
            simp only [resolve, hc, e4]
            rfl
          rw [this]
          exact g
        · cases ho
      · cases ho
    · split at ho
      · cases ho
      · cases ho
  · rename_i t mo ko xo hop
    split at ho
    · rename_i mp k z e1 e2 e3
      split at ho
      · rename_i h' id hu
        injection ho with ho
        obtain ⟨g1, g2, g3⟩ := outOf_eq ho
        rw [g1, g2]
        obtain ⟨w', u1, u2, u3⟩ := updateE_run r (ev_rel hf e1) (ev_rel hf e2) (ev_rel hf e3) hu
        exact ⟨undef, .skip, w', F, m, by unfold execOp; rw [hop]; simp [u1], .inr ⟨rfl, rfl⟩, Ext.refl _ _, by simp [VRel, VL, undef], u2, u3⟩
      · cases ho
    · cases ho
  · rename_i t mo ko xo hop
    split at ho
    · rename_i mp k z e1 e2 e3
      split at ho
      · rename_i h' id hu
        injection ho with ho
        obtain ⟨g1, g2, g3⟩ := outOf_eq ho
        rw [g1, g2]
        obtain ⟨w', u1, u2, u3⟩ := updateE_run r (ev_rel hf e1) (ev_rel hf e2) (ev_rel hf e3) hu
        exact ⟨undef, .skip, w', F, m, by unfold execOp; rw [hop]; simp [u1], .inr ⟨rfl, rfl⟩, Ext.refl _ _, by simp [VRel, VL, undef], u2, u3⟩
      · cases ho
    · cases ho
  · rename_i t mo ko ok hop
    split at ho
    · rename_i mp k e1 e2
      split at ho
      · rename_i y hy
        injection ho with ho
        obtain ⟨g1, g2, g3⟩ := outOf_eq ho
        rw [g1, g2]
        obtain ⟨v, v1, v2⟩ := lookupE_run hE r (ev_rel hf e1) (ev_rel hf e2) hy
        exact ⟨v, .value v, w, F, m, by unfold execOp; rw [hop]; simp [v1], .inl rfl, Ext.refl _ _, v2, r, Same.refl _⟩
      · cases ho
    · cases ho
  · split at ho
    · rename_i y h' s hp
      injection ho with ho
      obtain ⟨g1, g2, g3⟩ := outOf_eq ho
      rw [g1, g2]
      exact opE_sound hE r hf hp
    · cases ho
  · split at ho
    · rename_i y h' s hp
      injection ho with ho
      obtain ⟨g1, g2, g3⟩ := outOf_eq ho
      rw [g1, g2]
      exact opE_sound hE r hf hp
    · cases ho

theorem coreO_plain {E : Env} {f : FuncId} {o : Oper} {x : Out} (ho : coreO E noK f o fr h = some x) : ∀ c, o.op ≠ .defer c := by
  intro c hc
  obtain ⟨dst, op, type, pos, after, guard⟩ := o
  simp only at hc
  subst hc
  simp [coreO, opE] at ho

/-- As SRel, of frames that have calls deferred. -/
structure SRl (F : Fz) (m : Mp) (nt : Nat) (st : St) (a : Act) (w : World) : Prop where
  rel : Rel F m st.h w
  fr : FRel F m st.fr a.tmps
  size : a.tmps.size = nt

theorem SRl.next {nt : Nat} {st : St} (s : SRl F m nt st a w) {F' : Fz} {m' : Mp} {w' : World} {dst : Option Tmp} {y : AV} {v : Value} {fr' : FR} {h' : Heap} {ds ls : List Nat} (he : Ext F m F' m') (hp : putF nt st.fr dst y = some fr') (hv : VRel F' m' y v)
    (hr : Rel F' m' h' w') : SRl F' m' nt ⟨fr', h', ds, ls⟩ (a.put dst v) w' := by
  obtain ⟨g1, g2, g3⟩ := put_rel_F (s.fr.mono he) s.size hp hv
  exact ⟨hr, g1, g2⟩

theorem put_defers (a : Act) (dst : Option Tmp) (v : Value) : (a.put dst v).defers = a.defers := by cases dst <;> rfl

/-- What operations leave of the temporaries. -/
structure KeepT (os : List Oper) (a a' : Act) : Prop where
  defers : a'.defers = a.defers
  tmps : ∀ t, (∀ o ∈ os, o.dst ≠ some t) → a'.tmps[t]? = a.tmps[t]?

theorem KeepT.nil (a : Act) : KeepT [] a a := ⟨rfl, fun _ _ => rfl⟩

theorem put_other (a : Act) (dst : Option Tmp) (v : Value) (t : Nat) (h : dst ≠ some t) : (a.put dst v).tmps[t]? = a.tmps[t]? := by
  cases dst with
  | none => rfl
  | some d =>
    have hne : d ≠ t := fun e => h (by rw [e])
    simp [Act.put, Array.getElem?_setIfInBounds_ne hne]

theorem KeepT.cons {o : Oper} {os : List Oper} {a a1 a2 : Act} (h1 : ∃ v, a1 = a.put o.dst v) (h2 : KeepT os a1 a2) : KeepT (o :: os) a a2 := by
  obtain ⟨v, rfl⟩ := h1
  refine ⟨h2.defers.trans (put_defers _ _ _), fun t ht => ?_⟩
  rw [h2.tmps t fun o' ho' => ht o' (by simp [ho']), put_other a o.dst v t (ht o (by simp))]

/-- One operation in whatever frame. -/
theorem stepO_inT {Fc : Fence} {n : Nat} (hF : ∀ f, Fc.fn f) {E : Env} (hE : E.ZerosOK) {f : FuncId} {nt n0 : Nat} {ops : Array Oper} {i : Nat} {rest : List Nat} {o : Oper} (hi : ops[i]? = some o) {st st' : St} {c : Cl} (hs : stepO E noK f nt n0 ops o st = some (st', c)) (s : SRl F m nt st a w)
    {Q : Exit → Act → World → Prop} (hn : ∀ a' w' F' m', Ext F m F' m' → SRl F' m' nt st' a' w' → (∃ v, a' = a.put o.dst v) → Same w w' → wpOpsIn Fc n E.P ops Q rest a' w') : wpOpsIn Fc n E.P ops Q (i :: rest) a w := by
  simp only [wpOpsIn, hi]
  unfold stepO at hs
  split at hs
  · rename_i hw
    rw [wantedE_rel s.fr hw]
    split at hs
    · rename_i fr' hp
      simp only [Option.some.injEq, Prod.mk.injEq] at hs
      obtain ⟨rfl, rfl⟩ := hs
      simp only [Bool.false_eq_true, if_false]
      exact ⟨fun f _ => hF f, hn _ _ F m (Ext.refl _ _) (s.next (Ext.refl _ _) hp (by simp [VRel, VL, undef]) s.rel) ⟨_, rfl⟩ (Same.refl _)⟩
    · cases hs
  · rename_i hw
    rw [wantedE_rel s.fr hw]
    split at hs
    · rename_i x hx
      split at hs
      · rename_i fr' hp
        simp only [Option.some.injEq, Prod.mk.injEq] at hs
        obtain ⟨rfl, rfl⟩ := hs
        simp only [if_true]
        refine ⟨fun f _ => hF f, ?_⟩
        rw [Oper.semAt_eq _ _ _ (coreO_plain hx)]
        obtain ⟨v, nx, w', F', m', h1, h2, h3, h4, h5, h6⟩ := coreO_good hE s.rel s.fr hx
        rw [h1]
        have key := hn _ w' F' m' h3 (s.next h3 hp h4 h5) ⟨_, rfl⟩ h6
        rcases h2 with rfl | ⟨rfl, rfl⟩
        · exact key
        · exact key
      · cases hs
    · cases hs
  · cases hs

theorem runOps_inT {Fc : Fence} {n : Nat} (hF : ∀ f, Fc.fn f) {E : Env} (hE : E.ZerosOK) {f : FuncId} {nt n0 : Nat} {ops : Array Oper} {Q : Exit → Act → World → Prop} {st' : St} {cs' : List Cl} {rest : List Nat} :
    ∀ (os : List Oper) (i : Nat) (st : St) (cs : List Cl) (F : Fz) (m : Mp) (a : Act) (w : World), (∀ j, j < os.length → os[j]? = ops[i + j]?) → runOps E noK f nt n0 ops os st cs = some (st', cs') → SRl F m nt st a w →
      (∀ a' w' F' m', Ext F m F' m' → SRl F' m' nt st' a' w' → KeepT os a a' → Same w w' → wpOpsIn Fc n E.P ops Q rest a' w') → wpOpsIn Fc n E.P ops Q (List.range' i os.length ++ rest) a w
  | [], i, st, cs, F, m, a, w, _, hs, s, hq => by
    simp only [runOps, Option.some.injEq, Prod.mk.injEq] at hs
    obtain ⟨rfl, rfl⟩ := hs
    exact hq a w F m (Ext.refl _ _) s (KeepT.nil a) (Same.refl _)
  | o :: os, i, st, cs, F, m, a, w, ho, hs, s, hq => by
    simp only [runOps] at hs
    split at hs
    · rename_i st1 c hstep
      have hi : ops[i]? = some o := by have := ho 0 (by simp); simpa using this.symm
      rw [List.length_cons, List.range'_succ, List.cons_append]
      refine stepO_inT hF hE hi hstep s fun a' w' F' m' he s' hd hsm => ?_
      refine runOps_inT hF hE os (i + 1) st1 (c :: cs) F' m' a' w' (fun j hj => ?_) hs s' fun a2 w2 F2 m2 he2 s2 hd2 hsm2 => hq a2 w2 F2 m2 (he.trans he2) s2 (KeepT.cons hd hd2) (hsm.trans hsm2)
      have := ho (j + 1) (by simp; omega)
      rw [List.getElem?_cons_succ] at this
      rw [this]
      congr 1
      omega
    · cases hs

/-- A region without calls, and the temporaries that it leaves. -/
theorem region_inT {Fc : Fence} {n : Nat} (hF : ∀ f, Fc.fn f) {E : Env} (hE : E.ZerosOK) {f : FuncId} {nt n0 : Nat} {id : Nat} {ops : Array Oper} {Q : Exit → Act → World → Prop} {st st' : St} {cs : List Cl}
    (hr : runOps E noK f nt n0 ops ops.toList st [] = some (st', cs)) (s : SRl F m nt st a w)
    (hq : ∀ a' w' F' m', Ext F m F' m' → SRl F' m' nt st' a' w' → KeepT ops.toList a a' → Same w w' → Q .normal a' w') : (Code.region id ops false).wpIn Fc n E.P Q a w := by
  refine wpIn_region ?_
  have := runOps_inT (Fc := Fc) (n := n) (Q := Q) (rest := []) hF hE ops.toList 0 st [] F m a w (fun j _ => by simp) hr s hq
  rw [List.range_eq_range']
  simpa using this

/-- A region without calls. -/
theorem region_in {Fc : Fence} {n : Nat} (hF : ∀ f, Fc.fn f) {E : Env} (hE : E.ZerosOK) {f : FuncId} {nt n0 : Nat} {id : Nat} {ops : Array Oper} {Q : Exit → Act → World → Prop} {st st' : St} {cs : List Cl}
    (hr : runOps E noK f nt n0 ops ops.toList st [] = some (st', cs)) (s : SRl F m nt st a w)
    (hq : ∀ a' w' F' m', Ext F m F' m' → SRl F' m' nt st' a' w' → a'.defers = a.defers → Same w w' → Q .normal a' w') : (Code.region id ops false).wpIn Fc n E.P Q a w :=
  region_inT hF hE hr s fun a' w' F' m' he s' hk hsm => hq a' w' F' m' he s' hk.defers hsm

/-! ### Objects beside the rows -/
/-- An object that is no cells, turned. -/
theorem Rel.swap (r : Rel F m h w) {b : Nat} {o o' : Obj} (hb : F b = some o) (ho : ∀ c e f, o ≠ .cells c e f) {w' : World} (hw : ∀ c, c ≠ b → w'.heap[c]? = w.heap[c]?) (hb' : w'.heap[b]? = some o') : Rel (Fz.add F b o') m h w' := by
  have mv : Move h.length F m (Fz.add F b o') m := by
    refine ⟨fun c x e f hc => ?_, fun _ _ _ _ hx => hx, fun _ _ _ hx => hx⟩
    unfold Fz.add
    by_cases e0 : c = b
    · subst e0; rw [hb] at hc; injection hc with hc; exact (ho _ _ _ hc).elim
    · rw [if_neg e0]; exact hc
  refine ⟨fun c x hc => ?_, fun id k gen els ex hi => ?_, fun id es c hi => ?_, r.fresh, r.freshM, r.inj, r.injM⟩
  · unfold Fz.add at hc
    split at hc
    · rename_i e0; injection hc with hc; subst e0; subst hc; exact hb'
    · rename_i e0; rw [hw c e0]; exact r.fz c x hc
  · obtain ⟨g, C, t, cur, x⟩ := r.row id k gen els ex hi
    have hg : g ≠ b := fun e0 => by subst e0; rw [x.own] at hb; cases hb
    have hl := r.rowLt hi
    simp only [AM.rowLt] at hl
    exact ⟨g, C, t, cur, ⟨x.mp, x.pos, by rw [hw g hg]; exact x.heap, by unfold Fz.add; rw [if_neg hg]; exact x.own, x.size, x.len, x.exact, x.ty, x.most, x.all, CL.move mv _ _ hl x.cells, x.gens⟩⟩
  · obtain ⟨g, ents, x⟩ := r.map id es c hi
    have hg : g ≠ b := fun e0 => by subst e0; rw [x.own] at hb; cases hb
    have hl := r.rowLt hi
    simp only [AM.rowLt] at hl
    exact ⟨g, ents, ⟨x.mp, by rw [hw g hg]; exact x.heap, by unfold Fz.add; rw [if_neg hg]; exact x.own, EntR_move mv hl x.ents⟩⟩

/-- The same of a value. -/
theorem VRel.swap (r : Rel F m h w) {b : Nat} {o : Obj} (o' : Obj) (hb : F b = some o) (ho : ∀ c e f, o ≠ .cells c e f) {x : AV} {v : Value} (hv : VRel F m x v) : VRel (Fz.add F b o') m x v := by
  refine VRel.move (n := h.length) ⟨fun c z e f hc => ?_, fun _ _ _ _ hx => hx, fun _ _ _ hx => hx⟩ x v (VRel.lt r.fresh r.freshM x v hv) hv
  unfold Fz.add
  by_cases e0 : c = b
  · subst e0; rw [hb] at hc; injection hc with hc; exact (ho _ _ _ hc).elim
  · rw [if_neg e0]; exact hc

/-- Blocks turned of which nothing is told. -/
theorem Rel.later (r : Rel F m h w) {w' : World} (hw : ∀ b, b < w.heap.size → w'.heap[b]? = w.heap[b]?) : Rel F m h w' := by
  have lt : ∀ {b : Nat} {o : Obj}, w.heap[b]? = some o → b < w.heap.size := fun hb => (Array.getElem?_eq_some_iff.1 hb).1
  refine ⟨fun b o hb => by rw [hw b (lt (r.fz b o hb))]; exact r.fz b o hb, fun id k gen els ex hi => ?_, fun id es c hi => ?_, r.fresh, r.freshM, r.inj, r.injM⟩
  · obtain ⟨g, C, t, cur, x⟩ := r.row id k gen els ex hi
    exact ⟨g, C, t, cur, ⟨x.mp, x.pos, by rw [hw g (lt x.heap)]; exact x.heap, x.own, x.size, x.len, x.exact, x.ty, x.most, x.all, x.cells, x.gens⟩⟩
  · obtain ⟨g, ents, x⟩ := r.map id es c hi
    exact ⟨g, ents, ⟨x.mp, by rw [hw g (lt x.heap)]; exact x.heap, x.own, x.ents⟩⟩

end Go.AM

set_option linter.unusedVariables false
set_option linter.unusedSimpArgs false
namespace Go.AM
open Go

variable {F : Fz} {m : Mp} {fr : FR} {a : Act} {h : Heap} {w : World} {P : Program}

theorem ovSelf_ok {f : FuncId} (hc : ∀ v w, (callFunc f #[v]).run P w = .ok (.value v) w) : OvOK P f ovSelf := by
  refine ⟨fun args h y h' e ho F m w vs r hv next hn => ?_, fun args h y h' e ho hq => ?_, fun args h y h' e ho => ?_⟩ <;> unfold ovSelf at ho <;> split at ho <;> try (cases ho; done)
  · rename_i x
    simp only [Option.some.injEq, Prod.mk.injEq] at ho
    obtain ⟨rfl, rfl, rfl⟩ := ho
    simp only [VL] at hv
    obtain ⟨v, _, h1, rfl, rfl⟩ := hv
    rw [hc]
    exact hn v w F m (Ext.refl _ _) h1 r (Same.refl _)
  · simp only [Option.some.injEq, Prod.mk.injEq] at ho
    obtain ⟨rfl, rfl, rfl⟩ := ho
    exact ⟨rfl, rfl, rfl⟩
  · simp only [Option.some.injEq, Prod.mk.injEq] at ho
    obtain ⟨rfl, rfl, rfl⟩ := ho
    exact Law.refl h

theorem bytesOf_run (r : Rel F m h w) {x : AV} {b : ByteArray} {v : Value} (hb : strOf h x = some b) (hv : VRel F m x v) : (Extern.Bytes.bytesOf v).run P w = .ok b w := by
  cases hx : elsOf h x with
  | some q =>
    obtain ⟨k, l⟩ := q
    obtain ⟨ad, cap, xs, rfl, hsp, g3, rfl, hm⟩ := strOf_els r hx hb hv
    have := Go.Lib.run_loadBytesX (P := P) (w := w) xs ad .empty (fun j y hj => by
      have hj' := lt_of_getElem? hj
      have := hm j (by omega)
      rw [add_any hsp, this]
      simp [List.getD_eq_getElem?_getD, hj])
    rw [g3] at this
    simp only [Extern.Bytes.bytesOf]
    rw [this]
    congr 1
    apply ByteArray.ext
    simp [strOfNums, Lib.bytesOf]
  | none =>
    cases x with
    | v y =>
      simp only [VRel] at hv
      obtain ⟨_, rfl⟩ := hv
      unfold strOf at hb
      split at hb
      · rename_i heq
        injection heq with heq
        subst heq
        injection hb with hb
        subst hb
        rfl
      · rename_i s0 heq
        injection heq with heq
        subst heq
        injection hb with hb
        subst hb
        rfl
      · simp [hx] at hb
    | _ => simp [strOf, hx] at hb

theorem ovBytesCompare_ok {f : FuncId} (hc : ∀ v u w, (callFunc f #[v, u]).run P w = (do pure (.value (← Extern.BytealgCompare.compare #[v, u])) : Sem Next).run P w) : OvOK P f ovBytesCompare := by
  refine ⟨fun args h y h' e ho F m w vs r hv next hn => ?_, fun args h y h' e ho hq => ?_, fun args h y h' e ho => ?_⟩ <;> unfold ovBytesCompare at ho <;> split at ho <;> try (cases ho; done)
  · rename_i x z
    split at ho
    · rename_i s t h1 h2
      simp only [Option.some.injEq, Prod.mk.injEq] at ho
      obtain ⟨rfl, rfl, rfl⟩ := ho
      simp only [VL] at hv
      obtain ⟨v, _, g1, ⟨u, _, g2, rfl, rfl⟩, rfl⟩ := hv
      have b1 := bytesOf_run (P := P) r h1 g1
      have b2 := bytesOf_run (P := P) r h2 g2
      have hcm : (Extern.BytealgCompare.compare #[v, u]).run P w = .ok (goInt (Extern.BytealgCompare.cmp s t)) w := by
        show (do pure (goInt (Extern.BytealgCompare.cmp (← Extern.Bytes.bytesOf v) (← Extern.Bytes.bytesOf u))) : Sem Value).run P w = _
        simp [-bind_pure_comp, b1, b2]
      have e : (callFunc f [v, u].toArray).run P w = .ok (.value (goInt (Extern.BytealgCompare.cmp s t))) w := by
        show (callFunc f #[v, u]).run P w = _
        rw [hc]
        simp [-bind_pure_comp, hcm]
      rw [e]
      exact hn _ w F m (Ext.refl _ _) (by simp [VRel, free, goInt]) r (Same.refl _)
    · cases ho
  · split at ho
    · simp only [Option.some.injEq, Prod.mk.injEq] at ho
      obtain ⟨rfl, rfl, rfl⟩ := ho
      exact ⟨rfl, rfl, rfl⟩
    · cases ho
  · split at ho
    · simp only [Option.some.injEq, Prod.mk.injEq] at ho
      obtain ⟨rfl, rfl, rfl⟩ := ho
      exact Law.refl h
    · cases ho

end Go.AM

set_option linter.unusedVariables false
set_option linter.unusedSimpArgs false
namespace Go.AM
open Go

variable {F F' : Fz} {m m' : Mp} {fr : FR} {a : Act} {h : Heap} {w : World} {P : Program}

abbrev nilS : AV := .v (.slice none 0 0)

/-- The heap between two rounds: 's' in its box, what has come in a row of its own. -/
structure Shape (h0 : Heap) (ts te k : Nat) (xs : List AV) (h : Heap) : Prop where
  old : ∀ id, id < h0.length → h[id]? = h0[id]?
  box : ∃ b, h[h0.length]? = some (.row 1 0 [b] ⟨true, ts⟩) ∧ ((xs = [] ∧ b = nilS) ∨ (xs ≠ [] ∧ ∃ id gen ex, h0.length < id ∧ b = .sl id gen 0 xs.length ∧ h[id]? = some (.row k gen xs ex) ∧ ex.ty = te))

theorem Shape.push {h0 : Heap} {ts te k : Nat} {xs : List AV} (s : Shape h0 ts te k xs h) (r : Row) : Shape h0 ts te k xs (h ++ [r]) := by
  have lt : ∀ {i : Nat} {x : Row}, h[i]? = some x → i < h.length := fun hx => (List.getElem?_eq_some_iff.1 hx).1
  obtain ⟨b, hb, hx⟩ := s.box
  refine ⟨fun id hi => ?_, b, by rw [List.getElem?_append_left (lt hb)]; exact hb, ?_⟩
  · have := lt hb
    rw [List.getElem?_append_left (by omega)]
    exact s.old id hi
  · rcases hx with hx | ⟨hx, id, gen, ex, h1, h2, h3, h4⟩
    · exact .inl hx
    · exact .inr ⟨hx, id, gen, ex, h1, h2, by rw [List.getElem?_append_left (lt h3)]; exact h3, h4⟩

/-- What lies fixed while the loop runs. -/
structure SeqC where
  F0 : Fz
  m0 : Mp
  w0 : World
  h0 : Heap
  ts : TypeId
  te : TypeId
  k : Nat
  l : Nat
  D : Nat
  fn : FuncId
  tmps : Array Value
  assign : Code
  body : Code

def SeqC.rec_ (c : SeqC) (st : LoopState) : Loop := { state := st, pending := none, fn := c.fn, tmps := c.tmps, params := #[7], assign := c.assign, body := c.body, defers := c.D }

/-- Between two rounds. -/
structure At (c : SeqC) (xs : List AV) (F : Fz) (m : Mp) (w : World) : Prop where
  mem : ∃ h, Shape c.h0 c.ts c.te c.k xs h ∧ Rel F m h w
  ext : Ext c.F0 c.m0 F m
  loop : F c.l = some (.loop (c.rec_ .ready))
  defer : F c.D = some (.deferred (some []))
  same : Same c.w0 w

def mostSeq : Nat := 1000000

/-- A round of the loop: one thing more has come. -/
def RoundOK (P : Program) (c : SeqC) : Prop := ∀ (n : Nat) (xs : List AV) (x : AV) (v : Value) (F : Fz) (m : Mp) (W : World), At c xs F m W → xs.length < mostSeq → toV x = some v → leafs x = c.k →
  RoundIn Fence.wide n P c.l c.fn (c.tmps.setIfInBounds 7 v) c.assign c.body W fun e W' => e = .returned (.bool true) ∧ ∃ F' m', Ext F m F' m' ∧ At c (xs ++ [x]) F' m' W'

theorem isTupA_of {x : AV} {v : Value} (h : toV x = some v) : isTupA x = false := by
  cases x <;> first | rfl | (simp [toV] at h)

/-- Of a region's run the slots and the heap. -/
def outR (r : Option (St × List Cl)) : Option (FR × Heap) := r.map fun p => (p.1.fr, p.1.h)

theorem outR_eq {r : Option (St × List Cl)} {fr : FR} {h : Heap} (ho : outR r = some (fr, h)) : ∃ cs ds ls, r = some (⟨fr, h, ds, ls⟩, cs) := by
  unfold outR at ho
  cases r with
  | none => cases ho
  | some p =>
    obtain ⟨⟨fr', h', ds, ls⟩, cs⟩ := p
    simp only [Option.map_some, Option.some.injEq, Prod.mk.injEq] at ho
    obtain ⟨rfl, rfl⟩ := ho
    exact ⟨cs, ds, ls, rfl⟩

/-- What the regions of the function do. -/
structure SeqRuns (E : Env) (f : FuncId) (ts te k : Nat) (o0 o1 oA oB o4 : Array Oper) : Prop where
  r0 : ∀ (h : Heap) (s : AV), outR (runOps E noK f 13 h.length o0 o0.toList ⟨[(0, nilS), (1, s)], h, [], []⟩ []) = some ([(4, nilS), (2, .ptr h.length 0 0 [] 0), (0, nilS), (1, s)], h ++ [Row.row 1 0 [nilS] ⟨true, ts⟩])
  r1 : ∀ (h : Heap) (n0 : Nat) (s p : AV), outR (runOps E noK f 13 n0 o1 o1.toList ⟨[(4, nilS), (2, p), (0, nilS), (1, s)], h, [], []⟩ []) = some ([(6, s), (4, nilS), (2, p), (0, nilS), (1, s)], h)
  rA : ∀ (h : Heap) (n0 : Nat) (p x : AV) (v : Value), toV x = some v → leafs x = k → outR (runOps E noK f 13 n0 oA oA.toList ⟨[(7, x), (2, p)], h, [], []⟩ []) = some ([(5, .ptr h.length 0 0 [] 0), (7, x), (2, p)], h ++ [Row.row k 0 [x] ⟨true, te⟩])
  rB : ∀ (h0 h : Heap) (n0 : Nat) (xs : List AV) (x : AV) (v : Value), Shape h0 ts te k xs h → xs.length < mostSeq → toV x = some v → leafs x = k →
    ∃ fr h2, outR (runOps E noK f 13 n0 oB oB.toList ⟨[(5, .ptr h.length 0 0 [] 0), (7, x), (2, .ptr h0.length 0 0 [] 0)], h ++ [Row.row k 0 [x] ⟨true, te⟩], [], []⟩ []) = some (fr, h2) ∧ Shape h0 ts te k (xs ++ [x]) h2
  r4 : ∀ (h : Heap) (n0 q : Nat) (b s : AV), isAggA b = false → leafs b = 1 → h[q]? = some (.row 1 0 [b] ⟨true, ts⟩) → ∃ fr, outR (runOps E noK f 13 n0 o4 o4.toList ⟨[(6, s), (4, nilS), (2, .ptr q 0 0 [] 0), (0, nilS), (1, s)], h, [], []⟩ []) = some (fr, h) ∧ get fr 4 = some b

theorem SRl.plain {nt : Nat} {fr : FR} {h : Heap} {ds ls ds' ls' : List Nat} (s : SRl F m nt ⟨fr, h, ds, ls⟩ a w) : SRl F m nt ⟨fr, h, ds', ls'⟩ a w := ⟨s.rel, s.fr, s.size⟩

theorem same_putObj (w : World) (b : Nat) (o : Obj) : Same w (w.putObj b o) := ⟨rfl, rfl, rfl, by simp, Nat.le_refl _⟩

theorem loop_no_cells {l : Loop} : ∀ c e f, Obj.loop l ≠ .cells c e f := fun _ _ _ h => by cases h

/-- A ROUND. -/
theorem round_ok {E : Env} (hE : E.ZerosOK) {f : FuncId} {ts te k : Nat} {o0 o1 oA oB o4 : Array Oper} (R : SeqRuns E f ts te k o0 o1 oA oB o4) (c : SeqC) {iA iB : Nat} (hts : c.ts = ts) (hte : c.te = te) (hk : c.k = k)
    (hA : c.assign = .region iA oA false) (hB : c.body = .block 1 (.region iB oB false)) (hs : c.tmps.size = 13) {bv : Value} (hb : c.tmps[2]? = some bv) (hbv : VRel c.F0 c.m0 (.ptr c.h0.length 0 0 [] 0) bv) (hl0 : c.F0 c.l = none) : RoundOK E.P c := by
  subst hts; subst hte; subst hk
  intro n xs x v F m W hat hlen hx hkx
  obtain ⟨h, sh, r⟩ := hat.mem
  obtain ⟨hv, hvt⟩ := toV_self (F := F) (m := m) x v hx
  refine roundIn_of_wpIn (F := Fence.wide) trivial ?_
  rw [hA, hB]
  obtain ⟨csA, dsA, lsA, hrA⟩ := outR_eq (R.rA h h.length (.ptr c.h0.length 0 0 [] 0) x v hx hkx)
  have s0 : SRl F m 13 ⟨[(7, x), (2, .ptr c.h0.length 0 0 [] 0)], h, [], []⟩ { tmps := c.tmps.setIfInBounds 7 v, defers := [] } W := by
    refine ⟨r, ⟨fun t z hz => ?_⟩, by simpa using hs⟩
    simp only [get] at hz
    cases h7 : Nat.beq 7 t with
    | true =>
      have := Nat.eq_of_beq_eq_true h7
      subst this
      simp only [h7, cond_true, Option.some.injEq] at hz
      subst hz
      exact ⟨v, by simp [hs], hv⟩
    | false =>
      simp only [h7, cond_false] at hz
      cases h2 : Nat.beq 2 t with
      | true =>
        have := Nat.eq_of_beq_eq_true h2
        subst this
        simp only [h2, cond_true, Option.some.injEq] at hz
        subst hz
        exact ⟨bv, by simp [hb], hbv.mono hat.ext⟩
      | false => simp [h2] at hz
  refine region_in (fun _ => trivial) hE hrA s0 fun a1 w1 F1 m1 he1 s1 hd1 hsm1 => ?_
  have hl1 : F1 c.l = some (.loop (c.rec_ .ready)) := he1.fz _ _ hat.loop
  have hw1 := s1.rel.fz _ _ hl1
  refine ⟨_, run_beginRound hw1 rfl, ?_⟩
  have hlt1 : c.l < w1.heap.size := (Array.getElem?_eq_some_iff.1 hw1).1
  -- the record is busy
  have s2 : SRl (Fz.add F1 c.l (.loop { c.rec_ .ready with state := .busy })) m1 13 ⟨[(5, .ptr h.length 0 0 [] 0), (7, x), (2, .ptr c.h0.length 0 0 [] 0)], h ++ [Row.row c.k 0 [x] ⟨true, c.te⟩], [], []⟩ a1 (w1.putObj c.l (.loop { c.rec_ .ready with state := .busy })) := by
    refine ⟨s1.rel.swap hl1 loop_no_cells (fun b hb => World.putObj_heap_other hb) (World.putObj_heap_same hlt1), ⟨fun t z hz => ?_⟩, s1.size⟩
    obtain ⟨u, u1, u2⟩ := s1.fr.get t z hz
    exact ⟨u, u1, VRel.swap s1.rel _ hl1 loop_no_cells u2⟩
  obtain ⟨frB, h2, hrB0, sh2⟩ := R.rB c.h0 h h.length xs x v sh hlen hx hkx
  obtain ⟨csB, dsB, lsB, hrB⟩ := outR_eq hrB0
  refine wpIn_block (region_in (fun _ => trivial) hE hrB s2 fun a3 w3 F3 m3 he3 s3 hd3 hsm3 => ?_)
  have hl3 : F3 c.l = some (.loop { c.rec_ .ready with state := .busy }) := he3.fz _ _ (by simp [Fz.add])
  have hw3 := s3.rel.fz _ _ hl3
  have hlt3 : c.l < w3.heap.size := (Array.getElem?_eq_some_iff.1 hw3).1
  simp only [Exit.inBlock, roundPost]
  refine ⟨_, _, run_endRound none hw3, rfl, Fz.add F3 c.l (.loop (c.rec_ .ready)), m3, ?_, ?_⟩
  · refine ⟨fun b o hb => ?_, fun id gen y hy => he3.row _ _ _ (he1.row _ _ _ hy), fun id y hy => he3.map _ _ (he1.map _ _ hy)⟩
    unfold Fz.add
    by_cases e : b = c.l
    · subst e
      rw [if_pos rfl, ← hat.loop]
      exact hb
    · rw [if_neg e]
      refine he3.fz _ _ ?_
      unfold Fz.add
      rw [if_neg e]
      exact he1.fz _ _ hb
  · have hne : c.D ≠ c.l := fun e => by have h1 := hat.defer; rw [e, hat.loop] at h1; cases h1
    refine ⟨⟨h2, sh2, s3.rel.swap hl3 loop_no_cells (fun b hb => World.putObj_heap_other hb) (World.putObj_heap_same hlt3)⟩, ?_, by simp [Fz.add], ?_, ?_⟩
    · refine ⟨fun b o hb => ?_, fun id gen y hy => he3.row _ _ _ (he1.row _ _ _ (hat.ext.row _ _ _ hy)), fun id y hy => he3.map _ _ (he1.map _ _ (hat.ext.map _ _ hy))⟩
      have e : b ≠ c.l := fun e => by subst e; rw [hl0] at hb; cases hb
      unfold Fz.add
      rw [if_neg e]
      refine he3.fz _ _ ?_
      unfold Fz.add
      rw [if_neg e]
      exact he1.fz _ _ (hat.ext.fz _ _ hb)
    · unfold Fz.add
      rw [if_neg hne]
      refine he3.fz _ _ ?_
      unfold Fz.add
      rw [if_neg hne]
      exact he1.fz _ _ hat.defer
    · exact (((hat.same.trans hsm1).trans (same_putObj _ _ _)).trans hsm3).trans (same_putObj _ _ _)

end Go.AM

set_option linter.unusedVariables false
set_option linter.unusedSimpArgs false
namespace Go.AM
open Go

variable {F F' : Fz} {m m' : Mp} {fr : FR} {a : Act} {h : Heap} {w : World} {P : Program}

/-- What an iterator owes: it returns, and has given things of which 'good' holds. -/
def IterOK (P : Program) (g : FuncId) (lb : List AV) (h0 : Heap) (k : Nat) (good : List AV → Prop) : Prop := ∀ (c : SeqC), RoundOK P c → c.h0 = h0 → c.k = k → c.D < c.l → ∀ (F : Fz) (m : Mp) (W : World) (vs : List Value), At c [] F m W → VL F m lb vs →
  c.F0 c.l = none → CallsIn Fence.wide 0 P g (#[.func (.yield c.l) #[] #[]] ++ vs.toArray) W fun e W' => ∃ v, e = .returned v ∧ ∃ xs F' m', good xs ∧ At c xs F' m' W'

theorem Rel.open (r : Rel F m h w) (o : Obj) : Rel (Fz.add F w.heap.size o) m h (w.alloc o) ∧ Ext F m (Fz.add F w.heap.size o) m := r.frozenBlock o

/-- THE FUNCTION. -/
theorem seq_calls {E : Env} (hE : E.ZerosOK) {f : FuncId} {fn : Func} {ts te k : Nat} {o0 o1 oA oB o4 : Array Oper} (R : SeqRuns E f ts te k o0 o1 oA oB o4) {i0 i1 iA iB i4 : Nat}
    (hf : E.P.funcs[f]? = some fn) (hb : fn.body = some (.seq (.region i0 o0 false) (.seq (.seq (.region i1 o1 false) (.block 0 (.rangeFunc (.tmp 6) #[7] (.region iA oA false) (.block 1 (.region iB oB false))))) (.seq (.region i4 o4 false) .ret))))
    (hn : fn.ntmps = 13) (hres : fn.results = #[.tmp 4]) {g : FuncId} {lb : List AV} {vs : List Value} (eg : ∀ args w, (callFunc g args).run E.P w = .ok (.enter g args) w) {good : List AV → Prop} (hit : IterOK E.P g lb h k good)
    (r : Rel F m h w) (hv : VL F m lb vs) : Calls E.P f #[.slice none 0 0, .func (.func g) #[] vs.toArray] w fun e w' => ∃ v, e = .returned v ∧ ∃ xs F' m' b h', good xs ∧ Shape h ts te k xs h' ∧ h'[h.length]? = some (.row 1 0 [b] ⟨true, ts⟩) ∧
      Rel F' m' h' w' ∧ Ext F m F' m' ∧ VRel F' m' b v ∧ Same w w' := by
  have wide : ∀ f, Fence.wide.fn f := fun _ => trivial
  have deep : Fence.wide.depth.isSome = true → 1 ≤ 0 := fun h => by cases h
  refine (callsIn_wide (n := 0)).1 (callsIn_of_wp_marks hf hb trivial ?_)
  rw [hn]
  have s0 : SRl F m 13 ⟨[(0, nilS), (1, .fn (.func g) [] lb)], h, [], []⟩ { tmps := #[.slice none 0 0, .func (.func g) #[] vs.toArray] ++ Array.replicate (13 - #[Value.slice none 0 0, .func (.func g) #[] vs.toArray].size) undef, defers := [] } w := by
    refine ⟨r, ⟨fun t z hz => ?_⟩, by simp⟩
    simp only [get] at hz
    cases h0 : Nat.beq 0 t with
    | true =>
      have := Nat.eq_of_beq_eq_true h0
      subst this
      simp only [h0, cond_true, Option.some.injEq] at hz
      subst hz
      exact ⟨.slice none 0 0, by simp, by simp [VRel, free]⟩
    | false =>
      simp only [h0, cond_false] at hz
      cases h1 : Nat.beq 1 t with
      | true =>
        have := Nat.eq_of_beq_eq_true h1
        subst this
        simp only [h1, cond_true, Option.some.injEq] at hz
        subst hz
        exact ⟨.func (.func g) #[] vs.toArray, by simp, by simp only [VRel, VL]; exact ⟨[], vs, rfl, hv, rfl⟩⟩
      | false => simp [h1] at hz
  obtain ⟨cs0, ds0, ls0, hr0⟩ := outR_eq (R.r0 h (.fn (.func g) [] lb))
  refine wpIn_seq (region_in wide hE hr0 s0 fun a1 w1 F1 m1 he1 s1 hd1 hsm1 => ?_)
  obtain ⟨cs1, ds1, ls1, hr1⟩ := outR_eq (R.r1 (h ++ [Row.row 1 0 [nilS] ⟨true, ts⟩]) h.length (.fn (.func g) [] lb) (.ptr h.length 0 0 [] 0))
  refine wpIn_seq (wpIn_seq (region_in wide hE hr1 s1.plain fun a2 w2 F2 m2 he2 s2 hd2 hsm2 => wpIn_block ?_))
  have hd : a2.defers = [] := by rw [hd2, hd1]
  -- the range
  obtain ⟨gv, g1, g2⟩ := s2.fr.get 6 (.fn (.func g) [] lb) rfl
  simp only [VRel, VL] at g2
  obtain ⟨xs0, vs2, g3, g4, rfl⟩ := g2
  subst g3
  obtain ⟨bv, b1, b2⟩ := s2.fr.get 2 (.ptr h.length 0 0 [] 0) rfl
  have hev : a2.eval (.tmp 6) = .func (.func g) #[] vs2.toArray := by simp [Act.eval, g1]
  refine wpIn_rangeFunc fun fn' _ => ?_
  let L : Loop := { state := .ready, pending := none, fn := fn', tmps := a2.tmps, params := #[7], assign := .region iA oA false, body := .block 1 (.region iB oB false), defers := w2.heap.size }
  refine ⟨w2.heap.size + 1, [{ target := .collected w2.heap.size, args := #[] }], (w2.alloc (.deferred (some []))).alloc (.loop L),
    { target := .fn (.func g) vs2.toArray, args := #[.func (.yield (w2.heap.size + 1)) #[] #[]] }, (w2.alloc (.deferred (some []))).alloc (.loop L), g, #[.func (.yield (w2.heap.size + 1)) #[] #[]] ++ vs2.toArray, (w2.alloc (.deferred (some []))).alloc (.loop L), run_enterLoop_outer _ _ _ _ _, ?_, fun _ _ => trivial, ?_, deep, ?_⟩
  · simp only [resolve, hev]
    simp [go_sem]
  · simp [invoke, go_sem, eg]
  · -- the iterator
    obtain ⟨rD, eD⟩ := s2.rel.open (.deferred (some []))
    obtain ⟨rL, eL⟩ := rD.open (.loop { state := .ready, pending := none, fn := fn', tmps := a2.tmps, params := #[7], assign := .region iA oA false, body := .block 1 (.region iB oB false), defers := w2.heap.size })
    have szD : (w2.alloc (.deferred (some []))).heap.size = w2.heap.size + 1 := by simp
    rw [szD] at rL eL
    let c : SeqC := { F0 := F2, m0 := m2, w0 := w2, h0 := h, ts := ts, te := te, k := k, l := w2.heap.size + 1, D := w2.heap.size, fn := fn', tmps := a2.tmps, assign := .region iA oA false, body := .block 1 (.region iB oB false) }
    have hl0 : c.F0 c.l = none := s2.rel.none_at (Nat.le_succ _)
    have hround : RoundOK E.P c := round_ok hE R c rfl rfl rfl rfl rfl s2.size b1 b2 hl0
    have sh0 : Shape h ts te k [] (h ++ [Row.row 1 0 [nilS] ⟨true, ts⟩]) := by
      refine ⟨fun id hi => by rw [List.getElem?_append_left hi], nilS, by simp, .inl ⟨rfl, rfl⟩⟩
    have hat : At c [] (Fz.add (Fz.add F2 w2.heap.size (.deferred (some []))) (w2.heap.size + 1) (.loop (c.rec_ .ready))) m2 ((w2.alloc (.deferred (some []))).alloc (.loop (c.rec_ .ready))) := by
      refine ⟨⟨_, sh0, rL⟩, eD.trans eL, by simp [Fz.add, c], by simp [Fz.add, c], (same_alloc _ _).trans (same_alloc _ _)⟩
    refine (hit c hround rfl rfl (Nat.lt_succ_self _) _ _ _ vs2 hat (VL.mono (eD.trans eL) lb vs2 g4) hl0).mono ?_
    rintro e w3 ⟨v, rfl, xs, F3, m3, hgood, hat3⟩
    obtain ⟨h3, sh3, r3⟩ := hat3.mem
    have hl3 := r3.fz _ _ hat3.loop
    have hlt3 : c.l < w3.heap.size := (Array.getElem?_eq_some_iff.1 hl3).1
    refine ⟨none, _, run_endLoop hl3 (by simp [SeqC.rec_]), ?_⟩
    -- behind the range
    have r4 := r3.swap hat3.loop loop_no_cells (o' := .loop { c.rec_ .ready with state := .exhausted }) (fun b hb => World.putObj_heap_other hb) (World.putObj_heap_same hlt3)
    have hne : c.D ≠ c.l := Nat.ne_of_lt (Nat.lt_succ_self _)
    have hD4 : Fz.add F3 c.l (.loop { c.rec_ .ready with state := .exhausted }) c.D = some (.deferred (some [])) := by
      unfold Fz.add
      rw [if_neg hne]
      exact hat3.defer
    have e4 : Ext F2 m2 (Fz.add F3 c.l (.loop { c.rec_ .ready with state := .exhausted })) m3 := by
      refine ⟨fun b o hb => ?_, hat3.ext.row, hat3.ext.map⟩
      have : b ≠ c.l := fun e => by subst e; rw [show F2 c.l = none from hl0] at hb; cases hb
      unfold Fz.add
      rw [if_neg this]
      exact hat3.ext.fz b o hb
    have s4 : SRl (Fz.add F3 c.l (.loop { c.rec_ .ready with state := .exhausted })) m3 13 ⟨[(6, .fn (.func g) [] lb), (4, nilS), (2, .ptr h.length 0 0 [] 0), (0, nilS), (1, .fn (.func g) [] lb)], h3, [], []⟩ { a2 with defers := [{ target := .collected w2.heap.size, args := #[] }] ++ a2.defers } (w3.putObj c.l (.loop { c.rec_ .ready with state := .exhausted })) :=
      ⟨r4, s2.fr.mono e4, s2.size⟩
    obtain ⟨b, hbox, hcase⟩ := sh3.box
    have hbl : isAggA b = false ∧ leafs b = 1 := by
      rcases hcase with ⟨_, rfl⟩ | ⟨_, id, gen, ex, _, rfl, _⟩ <;> exact ⟨rfl, rfl⟩
    obtain ⟨fr4, hr40, hg4⟩ := R.r4 h3 h.length h.length b (.fn (.func g) [] lb) hbl.1 hbl.2 hbox
    obtain ⟨cs4, ds4, ls4, hr4⟩ := outR_eq hr40
    show (Code.seq _ _).wpIn _ _ _ _ _ _
    refine wpIn_seq (region_in wide hE hr4 s4 fun a5 w5 F5 m5 he5 s5 hd5 hsm5 => wpIn_ret ?_)
    simp only [bodyPostM]
    rw [hd5]
    simp only [hd, List.append_nil]
    have hD5 : F5 c.D = some (.deferred (some [])) := he5.fz _ _ hD4
    have hw5 := s5.rel.fz _ _ hD5
    have hlt5 : c.D < w5.heap.size := (Array.getElem?_eq_some_iff.1 hw5).1
    refine ⟨by simp, .inl ⟨w2.heap.size, _, rfl, run_takeDeferred hw5, ?_⟩⟩
    have r6 := s5.rel.swap hD5 (fun _ _ _ e => by cases e) (o' := .deferred none) (w' := w5.putObj w2.heap.size (.deferred none)) (fun b hb => World.putObj_heap_other hb) (World.putObj_heap_same hlt5)
    obtain ⟨rv, v1, v2⟩ := s5.fr.get 4 b hg4
    have v3 := VRel.swap s5.rel (.deferred none) hD5 (fun _ _ _ e => by cases e) v2
    have hD0 : F2 c.D = none := s2.rel.none_at (Nat.le_refl _)
    have e6 : Ext F2 m2 (Fz.add F5 c.D (.deferred none)) m5 := by
      refine ⟨fun b o hb => ?_, fun id gen x hx => he5.row _ _ _ (e4.row _ _ _ hx), fun id x hx => he5.map _ _ (e4.map _ _ hx)⟩
      have : b ≠ c.D := fun e => by subst e; rw [hD0] at hb; cases hb
      unfold Fz.add
      rw [if_neg this]
      exact he5.fz _ _ (e4.fz b o hb)
    have hresv : (results fn a5.tmps).run E.P (w5.putObj w2.heap.size (.deferred none)) = .ok rv (w5.putObj w2.heap.size (.deferred none)) := by
      simp [results, hres, v1]
    have post : ∃ v, Ending.returned rv = .returned v ∧ ∃ xs F' m' b h', good xs ∧ Shape h ts te k xs h' ∧ h'[h.length]? = some (.row 1 0 [b] ⟨true, ts⟩) ∧
      Rel F' m' h' (w5.putObj w2.heap.size (.deferred none)) ∧ Ext F m F' m' ∧ VRel F' m' b v ∧ Same w (w5.putObj w2.heap.size (.deferred none)) :=
      ⟨rv, rfl, xs, _, m5, b, h3, hgood, sh3, hbox, r6, (he1.trans he2).trans e6, v3, (((hsm1.trans hsm2).trans hat3.same).trans (same_putObj _ _ _)).trans (hsm5.trans (same_putObj _ _ _))⟩
    simp only [LeavesInM, LeavesIn]
    exact ⟨rv, hresv, post⟩

end Go.AM

set_option linter.unusedVariables false
set_option linter.unusedSimpArgs false
namespace Go.AM
open Go

variable {F F' : Fz} {m m' : Mp} {fr : FR} {a : Act} {h : Heap} {w : World} {P : Program}

theorem lookAt_old {h h0 : Heap} (hold : ∀ id, id < h0.length → h[id]? = h0[id]?) {id gen i o : Nat} {p : List Nat} (hid : id < h0.length) : lookAt h (.ptr id gen i p o) = lookAt h0 (.ptr id gen i p o) := by
  simp only [lookAt]
  rw [hold id hid]


/-- All that was there stands; what is new is told no more. -/
theorem Rel.back {h h' : Heap} {w' : World} (r : Rel F m h w) (r' : Rel F' m' h' w') (he : Ext F m F' m') (hold : ∀ id, id < h.length → h'[id]? = h[id]?) :
    Rel (frF F' m' h' h.length w') (cut m' h.length) h w' ∧ Ext F m (frF F' m' h' h.length w') (cut m' h.length) := by
  have mv := move_cut r' h.length
  refine ⟨r'.freeze rfl (fun id hi => (hold id hi).symm) (fun id x hi hx => r.rowLt (by rw [← hold id hi]; exact hx)), ⟨fun b o hb => frF_fz r' h.length b o (he.fz b o hb), fun id gen x hx => ?_, fun id x hx => ?_⟩⟩
  · exact mv.row id gen x (r.fresh id gen (by rw [hx]; simp)) (he.row id gen x hx)
  · exact mv.map id x (r.freshM id (by rw [hx]; simp)) (he.map id x hx)

/-- The mapping under which a row's number is another one. -/
def pick (m : Mp) (n id gen : Nat) : Mp := ⟨fun i g => if i < n then m.row i g else if i = n ∧ g = 0 then m.row id gen else none, fun i => if i < n then m.map i else none⟩

/-- All that was there stands, and one row more is told. -/
theorem Rel.pick {h h' : Heap} {w' : World} (r : Rel F m h w) (r' : Rel F' m' h' w') (he : Ext F m F' m') (hold : ∀ id, id < h.length → h'[id]? = h[id]?) {id k gen : Nat} {els : List AV} {ex ex' : Tag}
    (hid : h.length < id) (hr : h'[id]? = some (.row k gen els ex)) (hty : ex'.ty = ex.ty) (hfl : ex'.full = false) (hf : idfreeL els = true) :
    Rel F' (AM.pick m' h.length id gen) (h ++ [.row k 0 els ex']) w' ∧ Ext F m F' (AM.pick m' h.length id gen) := by
  have mv : Move h.length F' m' F' (AM.pick m' h.length id gen) := ⟨fun _ _ _ _ hb => hb, fun i g x hi hx => by simp [AM.pick, hi, hx], fun i x hi hx => by simp [AM.pick, hi, hx]⟩
  have dn : ∀ {i : Nat} {x : Row}, (h ++ [Row.row k 0 els ex'])[i]? = some x → (i < h.length ∧ h[i]? = some x) ∨ (i = h.length ∧ x = .row k 0 els ex') := fun {i x} hx => by
    rcases Nat.lt_or_ge i h.length with hi | hi
    · rw [List.getElem?_append_left hi] at hx
      exact .inl ⟨hi, hx⟩
    · rw [List.getElem?_append_right hi] at hx
      have : i - h.length = 0 := by
        rcases Nat.eq_zero_or_pos (i - h.length) with h0 | h0
        · exact h0
        · rw [List.getElem?_eq_none (by simp; omega)] at hx; cases hx
      rw [this] at hx
      simp only [List.getElem?_cons_zero, Option.some.injEq] at hx
      exact .inr ⟨by omega, hx.symm⟩
  obtain ⟨g, C, e, cur, xr⟩ := r'.row _ _ _ _ _ hr
  refine ⟨⟨r'.fz, fun i k1 gen1 els1 ex1 hi => ?_, fun i es c hi => ?_, fun i gn hn => ?_, fun i hn => ?_, ?_, ?_⟩, ⟨he.fz, fun i gn x hx => ?_, fun i x hx => ?_⟩⟩
  · rcases dn hi with ⟨hlt, h1⟩ | ⟨rfl, h1⟩
    · obtain ⟨g1, C1, e1, cur1, x⟩ := r'.row _ _ _ _ _ (by rw [hold i hlt]; exact h1)
      have hl := r.rowLt h1
      simp only [AM.rowLt] at hl
      refine ⟨g1, C1, e1, cur1, ⟨mv.row _ _ _ hlt x.mp, x.pos, x.heap, x.own, x.size, x.len, x.exact, x.ty, x.most, x.all, CL.move mv _ _ hl x.cells, fun gn hg => ?_⟩⟩
      simp only [AM.pick, hlt, if_true] at hg
      exact x.gens gn hg
    · injection h1 with a1 a2 a3 a4
      subst a1; subst a2; subst a3; subst a4
      refine ⟨g, C, e, cur, ⟨by simp [AM.pick, xr.mp], xr.pos, xr.heap, xr.own, xr.size, xr.len, fun hx => (by rw [hfl] at hx; cases hx), (by rw [hty]; exact xr.ty), xr.most, xr.all, CL.move mv _ _ (idfreeL_lt _ _ hf) xr.cells, fun gn hg => ?_⟩⟩
      simp only [AM.pick, Nat.lt_irrefl, if_false, true_and] at hg
      split at hg
      · omega
      · exact (hg rfl).elim
  · rcases dn hi with ⟨hlt, h1⟩ | ⟨rfl, h1⟩
    · obtain ⟨g1, ents, x⟩ := r'.map _ _ _ (by rw [hold i hlt]; exact h1)
      exact ⟨g1, ents, ⟨mv.map _ _ hlt x.mp, x.heap, x.own, EntR_move mv (r.rowLt h1) x.ents⟩⟩
    · cases h1
  · simp only [AM.pick] at hn
    simp only [List.length_append, List.length_singleton]
    split at hn
    · omega
    · split at hn
      · omega
      · exact (hn rfl).elim
  · simp only [AM.pick] at hn
    simp only [List.length_append, List.length_singleton]
    split at hn
    · omega
    · exact (hn rfl).elim
  · intro i1 i2 k1 gen1 els1 ex1 k2 gen2 els2 ex2 gg C1 C2 q1 q2 h1 h2 h3 h4
    rcases dn h1 with ⟨l1, e1⟩ | ⟨rfl, e1⟩ <;> rcases dn h2 with ⟨l2, e2⟩ | ⟨rfl, e2⟩
    · simp only [AM.pick, l1, l2, if_true] at h3 h4
      exact r'.inj i1 i2 _ _ _ _ _ _ _ _ _ _ _ _ _ (by rw [hold i1 l1]; exact e1) (by rw [hold i2 l2]; exact e2) h3 h4
    · injection e2 with a1 a2
      subst a2
      simp only [AM.pick, l1, if_true] at h3
      simp only [AM.pick, Nat.lt_irrefl, if_false, and_self, if_true] at h4
      have := r'.inj i1 id _ _ _ _ _ _ _ _ _ _ _ _ _ (by rw [hold i1 l1]; exact e1) hr h3 h4
      omega
    · injection e1 with a1 a2
      subst a2
      simp only [AM.pick, l2, if_true] at h4
      simp only [AM.pick, Nat.lt_irrefl, if_false, and_self, if_true] at h3
      have := r'.inj id i2 _ _ _ _ _ _ _ _ _ _ _ _ _ hr (by rw [hold i2 l2]; exact e2) h3 h4
      omega
    · rfl
  · intro i1 i2 es c es' c' g1 h1 h2 h3 h4
    rcases dn h1 with ⟨l1, e1⟩ | ⟨rfl, e1⟩ <;> rcases dn h2 with ⟨l2, e2⟩ | ⟨rfl, e2⟩
    · simp only [AM.pick, l1, l2, if_true] at h3 h4
      exact r'.injM i1 i2 _ _ _ _ _ (by rw [hold i1 l1]; exact e1) (by rw [hold i2 l2]; exact e2) h3 h4
    · cases e2
    · cases e1
    · rfl
  · exact mv.row _ _ _ (r.fresh i gn (by rw [hx]; simp)) (he.row _ _ _ hx)
  · exact mv.map _ _ (r.freshM i (by rw [hx]; simp)) (he.map _ _ hx)

end Go.AM

set_option linter.unusedVariables false
set_option linter.unusedSimpArgs false
namespace Go.AM
open Go

variable {F F' : Fz} {m m' : Mp} {fr : FR} {a : Act} {h : Heap} {w : World} {P : Program}


theorem lookAt_lt {id gen i o : Nat} {p : List Nat} {s : AV} (hs : lookAt h (.ptr id gen i p o) = some s) : id < h.length := by
  simp only [lookAt] at hs
  split at hs
  · rename_i hr
    exact (List.getElem?_eq_some_iff.1 hr).1
  · cases hs


end Go.AM
