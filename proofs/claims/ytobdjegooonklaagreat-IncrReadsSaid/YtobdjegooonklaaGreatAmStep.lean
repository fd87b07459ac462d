/- One operation, a row of operations: of the abstract machine and of the real one. Conditions: none. -/
import Derived.Test.YtobdjegooonklaaGreatAmUnsafe
set_option linter.unusedVariables false
set_option linter.unusedSimpArgs false
namespace Go.AM
open Go

variable {F : Fz} {m : Mp} {fr : FR} {a : Act} {h : Heap} {w : World} {P : Program}

theorem GoodV.good {y : AV} {h' : Heap} {s : Sem Value} (g : GoodV P F m w y h' s) : Good P F m w y h' (do pure (.value (← s))) := by
  obtain ⟨v, w', F', m', h1, h2, h3, h4, h5⟩ := g
  exact ⟨v, .value v, w', F', m', by simp [h1], .inl rfl, h2, h3, h4, h5⟩

theorem VL_len : ∀ {l : List AV} {vs : List Value}, VL F m l vs → vs.length = l.length
  | [], vs, hv => by simp only [VL] at hv; simp [hv]
  | x :: l, vs, hv => by
    simp only [VL] at hv
    obtain ⟨y, ds, _, h2, rfl⟩ := hv
    simp [VL_len h2]

theorem toVL_rel : ∀ {l : List AV} {vs ys : List Value}, toVL l = some vs → VL F m l ys → ys = vs
  | [], vs, ys, ht, hv => by
    simp only [VL] at hv
    simp only [toVL, Option.some.injEq] at ht
    rw [hv, ← ht]
  | x :: l, vs, ys, ht, hv => by
    simp only [VL] at hv
    obtain ⟨y, ds, h1, h2, rfl⟩ := hv
    simp only [toVL] at ht
    cases hx : toV x with
    | none => simp [hx] at ht
    | some v =>
      cases hl : toVL l with
      | none => simp [hx, hl] at ht
      | some l' =>
        simp only [hx, hl, Option.some.injEq] at ht
        rw [← ht, toV_rel x v hx y h1, toVL_rel hl h2]

theorem lenE_sound (r : Rel F m h w) {ts : Array TypeId} {x y : AV} {xv : Value} {h' : Heap} {sto : Option (Nat × Bool)} {cl : Cl} (hx : VRel F m x xv) (ho : lenE P h ts x = some (y, h', sto, cl)) (ty : TypeId) :
    GoodV P F m w y h' (Builtin.len_ ts ty #[xv]) := by
  unfold lenE at ho
  split at ho
  · rename_i t h0
    split at ho
    · rename_i s hu
      simp only [Option.some.injEq, Prod.mk.injEq] at ho
      obtain ⟨rfl, rfl, rfl, rfl⟩ := ho
      simp only [VRel] at hx
      obtain ⟨_, rfl⟩ := hx
      exact GoodV.val r (by simp [-bind_pure_comp, Builtin.len_, h0, run_underlying hu]) (VRel_vInt _)
    · rename_i e hu
      split at ho
      · rename_i n hn
        simp only [Option.some.injEq, Prod.mk.injEq] at ho
        obtain ⟨rfl, rfl, rfl, rfl⟩ := ho
        obtain ⟨ad, cap, rfl⟩ := sliceLen_rel hn hx
        exact GoodV.val r (by simp [-bind_pure_comp, Builtin.len_, h0, run_underlying hu]) (VRel_vInt _)
      · cases ho
    · rename_i n e l hu
      simp only [Option.some.injEq, Prod.mk.injEq] at ho
      obtain ⟨rfl, rfl, rfl, rfl⟩ := ho
      exact GoodV.val r (by simp [-bind_pure_comp, Builtin.len_, h0, run_underlying hu]) (VRel_vInt _)
    · rename_i n e hu
      simp only [Option.some.injEq, Prod.mk.injEq] at ho
      obtain ⟨rfl, rfl, rfl, rfl⟩ := ho
      exact GoodV.val r (by simp [-bind_pure_comp, Builtin.len_, h0, run_underlying hu]) (VRel_vInt _)
    · rename_i kt e hu
      simp only [Option.some.injEq, Prod.mk.injEq] at ho
      obtain ⟨rfl, rfl, rfl, rfl⟩ := ho
      simp only [VRel] at hx
      obtain ⟨_, rfl⟩ := hx
      exact GoodV.val r (v := goInt (0 : Nat)) (by simp [-bind_pure_comp, Builtin.len_, h0, run_underlying hu]) (VRel_vInt _)
    · rename_i kt e id hu
      split at ho
      · rename_i es c hr
        simp only [Option.some.injEq, Prod.mk.injEq] at ho
        obtain ⟨rfl, rfl, rfl, rfl⟩ := ho
        obtain ⟨g, ents, xm, rfl⟩ := map_row r hx hr
        have hl : ents.size = es.length := by have := EntR_len xm.ents; simpa using this
        exact GoodV.val r (v := goInt (es.length : Nat)) (by simp [-bind_pure_comp, Builtin.len_, h0, run_underlying hu, getObj_run xm.heap, hl]) (VRel_vInt _)
      · cases ho
    · cases ho
  · cases ho

theorem capE_sound (r : Rel F m h w) {ts : Array TypeId} {x y : AV} {xv : Value} {h' : Heap} {sto : Option (Nat × Bool)} {cl : Cl} (hx : VRel F m x xv) (ho : capE P h ts x = some (y, h', sto, cl)) (ty : TypeId) :
    GoodV P F m w y h' (Builtin.cap_ ts ty #[xv]) := by
  unfold capE at ho
  split at ho
  · rename_i t h0
    split at ho
    · rename_i e hu
      simp only [Option.some.injEq, Prod.mk.injEq] at ho
      obtain ⟨rfl, rfl, rfl, rfl⟩ := ho
      simp only [VRel] at hx
      obtain ⟨_, rfl⟩ := hx
      exact GoodV.val r (v := goInt (0 : Nat)) (by simp [-bind_pure_comp, Builtin.cap_, h0, run_underlying hu]) (VRel_vInt _)
    · rename_i e k l hu
      simp only [Option.some.injEq, Prod.mk.injEq] at ho
      obtain ⟨rfl, rfl, rfl, rfl⟩ := ho
      simp only [VRel] at hx
      obtain ⟨ad, cap, cs, g1, g2, g3, g4, g5, g6, rfl⟩ := hx
      have := g6 trivial
      subst this
      exact GoodV.val r (by simp [-bind_pure_comp, Builtin.cap_, h0, run_underlying hu]) (VRel_vInt _)
    · rename_i e id gen i p o k off len n hu
      simp only [Option.some.injEq, Prod.mk.injEq] at ho
      obtain ⟨rfl, rfl, rfl, rfl⟩ := ho
      simp only [VRel] at hx
      obtain ⟨g, C, K, ad, g1, g2, g3, g4, g5, rfl⟩ := hx
      exact GoodV.val r (by simp [-bind_pure_comp, Builtin.cap_, h0, run_underlying hu]) (VRel_vInt _)
    · rename_i e id gen off len hu
      split at ho
      · rename_i k g els ex hr
        cases hb : (Nat.beq g gen && ex.full) with
        | false => simp [hb] at ho
        | true =>
          simp only [hb, cond_true, Option.some.injEq, Prod.mk.injEq] at ho
          obtain ⟨rfl, rfl, rfl, rfl⟩ := ho
          rw [Bool.and_eq_true] at hb
          have eg : g = gen := Nat.eq_of_beq_eq_true hb.1
          subst eg
          obtain ⟨gb, C, e', cur, ad, xr, g1, g2, g3, g4, rfl⟩ := sl_row r hx hr
          have hC := xr.exact hb.2
          exact GoodV.val r (by simp [-bind_pure_comp, Builtin.cap_, h0, run_underlying hu, hC]) (VRel_vInt _)
      · cases ho
    · cases ho
  · cases ho

theorem clearE_sound {E : Env} (hE : E.ZerosOK) (r : Rel F m h w) {ts : Array TypeId} {x y : AV} {xv : Value} {h' : Heap} {sto : Option (Nat × Bool)} {cl : Cl} (hx : VRel F m x xv) (ho : clearE E h ts x = some (y, h', sto, cl)) (ty : TypeId) :
    GoodV E.P F m w y h' (Builtin.clear_ ts ty #[xv]) := by
  unfold clearE at ho
  split at ho
  · rename_i t h0
    split at ho
    · rename_i e hu
      simp only [Option.some.injEq, Prod.mk.injEq] at ho
      obtain ⟨rfl, rfl, rfl, rfl⟩ := ho
      simp only [VRel] at hx
      obtain ⟨_, rfl⟩ := hx
      exact GoodV.val r (v := .tuple #[]) (by simp [-bind_pure_comp, Builtin.clear_, h0, run_underlying hu]) (by simp [VRel, VL])
    · rename_i e id gen off len hu
      split at ho
      · rename_i k g els ex z hr hz
        cases hb : (Nat.beq g gen && Nat.beq (leafs z) k && Nat.ble (off + len) els.length) with
        | false => simp [hb] at ho
        | true =>
          simp only [hb, cond_true, Option.some.injEq, Prod.mk.injEq] at ho
          obtain ⟨rfl, rfl, rfl, rfl⟩ := ho
          simp only [Bool.and_eq_true] at hb
          obtain ⟨⟨c1, c2⟩, c3⟩ := hb
          have eg : g = gen := Nat.eq_of_beq_eq_true c1
          have ek : leafs z = k := Nat.eq_of_beq_eq_true c2
          have hol : off + len ≤ els.length := Nat.le_of_ble_eq_true c3
          subst eg; subst ek
          obtain ⟨gb, C, e', cur, ad, xr, g1, g2, g3, g4, rfl⟩ := sl_row r hx hr
          have hlC := xr.len
          cases len with
          | zero =>
            simp only [List.replicate_zero, setFrom_nil]
            rw [set_self_row hr]
            exact GoodV.val r (v := .tuple #[]) (by simp [-bind_pure_comp, Builtin.clear_, h0, run_underlying hu]) (by simp [VRel, VL])
          | succ len =>
            obtain ⟨v, v1, v2, v3, v4⟩ := zero_run (F := F) (m := m) hE hz w
            have hk0 : 0 < leafs z := xr.pos
            have hzc := zeroCells_eq (z := v.cells) v4 hk0 (len + 1)
            have hcl := CL_replicate v2 v3 (len + 1)
            have hkr := allK_replicate (n := len + 1) (x := z) rfl
            have hL := len_of_CL hcl hkr
            simp only [List.length_replicate] at hL
            have had := addr_eq g2 (g4 (by omega)) g3
            have hmul : (off + (len + 1)) * leafs z ≤ C * leafs z := Nat.mul_le_mul_right _ (by omega)
            have hsize := xr.size
            rw [Nat.add_mul] at hmul
            have hst := run_storeCells_at E.P gb (off * leafs z) e' (List.replicate (len + 1) v.cells.toList).flatten 0 cur w xr.heap (by omega) (CL.one _ _ hcl)
            refine ⟨.tuple #[], w.setRow gb (splice cur.toList (off * leafs z) (List.replicate (len + 1) v.cells.toList).flatten).toArray, F, m, ?_, Ext.refl _ _, by simp [VRel, VL], ?_, same_setRow _ _ _⟩
            · rw [had]
              simp only [Nat.add_zero] at hst
              simp [-bind_pure_comp, Builtin.clear_, h0, run_underlying hu, v1, hzc, hst, splice]
            · obtain ⟨q1, q2⟩ := CL_setFrom (i := off) xr.cells xr.all hcl hkr (by simpa using hol)
              refine r.setRow hr xr (splice_size (by omega)) (by rw [setFrom_length]; exact xr.len) (fun h => by rw [setFrom_length]; exact xr.exact h) q2 ?_
              rw [setFrom_length, List.toList_toArray, take_splice (by rw [hL, ← Nat.add_mul]; exact Nat.mul_le_mul_right _ hol) (by simp [hsize]; exact Nat.mul_le_mul_right _ xr.len)]
              exact q1
      · cases ho
    · cases ho
  · cases ho

theorem builtinE_sound {E : Env} (hE : E.ZerosOK) (r : Rel F m h w) {b : Builtin} {ts : Array TypeId} {ty : TypeId} {args : List AV} {vs : List Value} {cn : Array Bool} {y : AV} {h' : Heap} {sto : Option (Nat × Bool)} {cl : Cl}
    (ho : builtinE E h b ts ty args = some (y, h', sto, cl)) (hv : VL F m args vs) : Good E.P F m w y h' (builtin b ts ty cn vs.toArray) := by
  have pureB : ∀ (s : Array Value → Sem Value), (match toVL args with | some vs => (match pure1 (prun E.P (s vs.toArray)) with | some y => some (y, h, none, .pure) | none => none) | none => none : OpRes) = some (y, h', sto, cl) →
      GoodV E.P F m w y h' (s vs.toArray) := by
    intro s hs
    split at hs
    · rename_i vs' ht
      split at hs
      · rename_i y' hp
        simp only [Option.some.injEq, Prod.mk.injEq] at hs
        obtain ⟨rfl, rfl, rfl, rfl⟩ := hs
        obtain ⟨v, v1, v2, v3, v4⟩ := pure1_rel (F := F) (m := m) hp
        rw [toVL_rel ht hv]
        exact GoodV.val r (prun_run _ _ v1 w) v3
      · cases hs
    · cases hs
  unfold builtinE at ho
  dsimp only at ho
  split at ho
  · rename_i s x
    simp only [VL] at hv
    obtain ⟨v1, _, h1, ⟨v2, _, h2, rfl, rfl⟩, rfl⟩ := hv
    exact (appendE_sound hE r ho h1 h2 ty).good
  · rename_i s x
    simp only [VL] at hv
    obtain ⟨v1, _, h1, ⟨v2, _, h2, rfl, rfl⟩, rfl⟩ := hv
    exact (copyE_sound r ho h1 h2 ty).good
  · simp only [VL] at hv
    obtain ⟨v1, _, h1, rfl, rfl⟩ := hv
    exact (lenE_sound r h1 ho ty).good
  · simp only [VL] at hv
    obtain ⟨v1, _, h1, rfl, rfl⟩ := hv
    exact (capE_sound r h1 ho ty).good
  · simp only [VL] at hv
    obtain ⟨v1, _, h1, rfl, rfl⟩ := hv
    exact (clearE_sound hE r h1 ho ty).good
  · simp only [VL] at hv
    obtain ⟨v1, _, h1, ⟨v2, _, h2, rfl, rfl⟩, rfl⟩ := hv
    exact (deleteE_sound r h1 h2 ho ty).good
  · exact (pureB (Builtin.min_ ts ty) ho).good
  · exact (pureB (Builtin.max_ ts ty) ho).good
  · exact (pureB (Builtin.real_ ts ty) ho).good
  · exact (pureB (Builtin.imag_ ts ty) ho).good
  · exact (pureB (Builtin.complex_ ts ty) ho).good
  · simp only [VL] at hv
    obtain ⟨v1, _, h1, rfl, rfl⟩ := hv
    exact (sliceDataE_sound r ho h1 ts ty).good
  · simp only [VL] at hv
    obtain ⟨v1, _, h1, ⟨v2, _, h2, rfl, rfl⟩, rfl⟩ := hv
    exact (unsafeStringE_sound r ho h1 h2 ty).good
  · cases ho

/-! ### Calls -/
/-- What is owed of a call that runs, or of one that a function of the model answers. -/
def UponC (P : Program) (next : Value → World → Prop) : Result Next → Prop
  | .ok (.value v) w => next v w
  | .ok (.enter f args) w => Calls P f args w fun e w' => ∃ v, e = .returned v ∧ next v w'
  | _ => False

def CallOK (P : Program) (K : CallK) : Prop := ∀ f args h y h' e, K f args h = some (y, h', e) → ∀ F m w vs, Rel F m h w → VL F m args vs → ∀ next : Value → World → Prop,
  (∀ v w' F' m', Ext F m F' m' → VRel F' m' y v → Rel F' m' h' w' → Same w w' → next v w') → UponC P next ((callFunc f vs.toArray).run P w)

structure SRel (F : Fz) (m : Mp) (nt : Nat) (st : St) (a : Act) (w : World) : Prop where
  rel : Rel F m st.h w
  fr : FRel F m st.fr a.tmps
  size : a.tmps.size = nt
  defers : a.defers = []

theorem put_tmps (a : Act) (d : Tmp) (v : Value) : (a.put (some d) v).tmps = a.tmps.setIfInBounds d v := rfl

theorem put_rel_F {nt : Nat} (hf : FRel F m fr a.tmps) (hs : a.tmps.size = nt) {dst : Option Tmp} {y : AV} {v : Value} {fr' : FR} (hp : putF nt fr dst y = some fr') (hv : VRel F m y v) :
    FRel F m fr' (a.put dst v).tmps ∧ (a.put dst v).tmps.size = nt ∧ (a.put dst v).defers = a.defers := by
  cases dst with
  | none =>
    simp only [putF, Option.some.injEq] at hp
    subst hp
    exact ⟨hf, hs, rfl⟩
  | some d =>
    simp only [putF] at hp
    cases hb : Nat.blt d nt with
    | false => simp [hb] at hp
    | true =>
      simp only [hb, cond_true, Option.some.injEq] at hp
      subst hp
      have hd : d < a.tmps.size := by rw [hs]; simpa [Nat.blt_eq] using hb
      refine ⟨⟨fun t z hz => ?_⟩, by rw [put_tmps]; simpa using hs, rfl⟩
      rw [put_tmps]
      simp only [get] at hz
      cases he : Nat.beq d t with
      | true =>
        have : d = t := Nat.eq_of_beq_eq_true he
        subst this
        simp only [he, cond_true, Option.some.injEq] at hz
        subst hz
        exact ⟨v, by simp [hd], hv⟩
      | false =>
        simp only [he, cond_false] at hz
        have hne : d ≠ t := fun e => by subst e; simp at he
        obtain ⟨u, u1, u2⟩ := hf.get t z hz
        exact ⟨u, by rw [Array.getElem?_setIfInBounds_ne hne]; exact u1, u2⟩

theorem wantedE_rel {ops : Array Oper} (hf : FRel F m fr a.tmps) {o : Oper} {b : Bool} (hw : wantedE ops fr o = some b) : Region.wanted o (yielded ops a.tmps) = b := by
  unfold wantedE at hw
  unfold Region.wanted
  split at hw
  · rename_i hg
    injection hw with hw
    rw [hg]
    exact hw
  · rename_i j want hg
    rw [hg]
    dsimp only
    split at hw
    · rename_i d hd
      split at hw
      · rename_i q hq
        injection hw with hw
        obtain ⟨v, v1, v2⟩ := hf.get d _ hq
        simp only [VRel] at v2
        obtain ⟨_, rfl⟩ := v2
        simp only [yielded, hd, Option.bind_some, v1]
        rw [← hw]
        cases q <;> cases want <;> rfl
      · rename_i hq
        injection hw with hw
        obtain ⟨v, v1, v2⟩ := hf.get d _ hq
        simp only [VRel, VL] at v2
        obtain ⟨_, rfl, rfl⟩ := v2
        simp only [yielded, hd, Option.bind_some, v1]
        rw [← hw]
        rfl
      · cases hw
    · rename_i hd
      injection hw with hw
      simp only [yielded, hd, Option.bind_none]
      rw [← hw]
      rfl

theorem good_wp {o : Oper} {y : AV} {h' : Heap} (g : Good P F m w y h' (execOp a.eval o)) {next : Act → World → Prop} {Q : Exit → Act → World → Prop}
    (hn : ∀ v w' F' m', Ext F m F' m' → VRel F' m' y v → Rel F' m' h' w' → Same w w' → next (a.put o.dst v) w') : o.wp P a w next Q := by
  obtain ⟨v, n, w', F', m', h1, h2, h3, h4, h5, h6⟩ := g
  unfold Oper.wp
  rw [h1]
  rcases h2 with rfl | ⟨rfl, rfl⟩
  · exact hn v w' F' m' h3 h4 h5 h6
  · exact hn undef w' F' m' h3 h4 h5 h6

theorem outOf_eq {y : AV} {h' : Heap} {s : Option (Nat × Bool)} {c : Cl} {x : Out} (hx : outOf y h' s c = x) : x.y = y ∧ x.h = h' ∧ x.c = c := by
  subst hx
  cases s <;> exact ⟨rfl, rfl, rfl⟩

theorem VL_append : ∀ {l r : List AV} {xs ys : List Value}, VL F m l xs → VL F m r ys → VL F m (l ++ r) (xs ++ ys)
  | [], r, xs, ys, h1, h2 => by simp only [VL] at h1; subst h1; simpa using h2
  | x :: l, r, xs, ys, h1, h2 => by
    simp only [VL] at h1
    obtain ⟨v, ds, g1, g2, rfl⟩ := h1
    simp only [List.cons_append, VL]
    exact ⟨v, ds ++ ys, g1, VL_append g2 h2, rfl⟩

/-- ONE OPERATION. -/
theorem coreO_sound {E : Env} {K : CallK} (hE : E.ZerosOK) (hK : CallOK E.P K) (r : Rel F m h w) (hf : FRel F m fr a.tmps) {f : FuncId} {o : Oper} {x : Out} (ho : coreO E K f o fr h = some x) {next : Act → World → Prop} {Q : Exit → Act → World → Prop}
    (hn : ∀ v w' F' m', Ext F m F' m' → VRel F' m' x.y v → Rel F' m' x.h w' → Same w w' → next (a.put o.dst v) w') : o.wp E.P a w next Q := by
  unfold coreO at ho
  split at ho
  · -- a call
    rename_i c hop
    split at ho
    · -- of a builtin
      rename_i b hc
      split at ho
      · rename_i l hl
        split at ho
        · rename_i y h' s cl hb
          injection ho with ho
          obtain ⟨e1, e2, e3⟩ := outOf_eq ho
          rw [e1, e2] at hn
          have hv := evL_rel hf hl
          have g := builtinE_sound (cn := c.args.map fun | .const _ => true | _ => false) hE r hb hv
          refine good_wp ?_ hn
          have : execOp a.eval o = builtin b c.argTypes o.type (c.args.map fun | .const _ => true | _ => false) (c.args.toList.map a.eval).toArray := by
            unfold execOp
            rw [hop]
            have e4 : c.args.map a.eval = (c.args.toList.map a.eval).toArray := (map_toArray a.eval c.args _ rfl).symm
            simp only [resolve, hc, e4]
            rfl
          rw [this]
          exact g
        · cases ho
      · cases ho
    · -- of a function
      rename_i hnb
      split at ho
      · rename_i g l hc
        split at ho
        · rename_i y h' e hk
          injection ho with ho
          subst ho
          unfold callArgs at hc
          split at hc
          · rename_i fx hfx
            split at hc
            · rename_i g' first captured l' hev hl
              simp only [Option.some.injEq, Prod.mk.injEq] at hc
              obtain ⟨rfl, rfl⟩ := hc
              have hv := ev_rel hf hev
              simp only [VRel] at hv
              obtain ⟨xs, ys, v1, v2, v3⟩ := hv
              have hvl := VL_append (VL_append v1 (evL_rel hf hl)) v2
              have key := hK _ _ _ _ _ _ hk F m w _ r hvl (fun v w' => next (a.put o.dst v) w') hn
              have hex : execOp a.eval o = callFunc g' (xs ++ c.args.toList.map a.eval ++ ys).toArray := by
                unfold execOp
                rw [hop]
                have e4 : c.args.map a.eval = (c.args.toList.map a.eval).toArray := (map_toArray a.eval c.args _ rfl).symm
                simp only [resolve, hfx, Deferred.ofValue, v3]
                show callFunc g' (xs.toArray ++ c.args.map a.eval ++ ys.toArray) = _
                rw [e4]
                simp
              unfold Oper.wp
              rw [hex]
              generalize (callFunc g' (xs ++ c.args.toList.map a.eval ++ ys).toArray).run E.P w = res at key
              unfold UponC at key
              split at key
              · exact key
              · exact key.mono fun e w' he => by
                  obtain ⟨v, rfl, hv⟩ := he
                  exact hv
              · exact key.elim
            · cases hc
          · cases hc
        · cases ho
      · cases ho
  · -- a map written
    rename_i t mo ko xo hop
    split at ho
    · rename_i mp k z e1 e2 e3
      split at ho
      · rename_i h' id hu
        injection ho with ho
        obtain ⟨g1, g2, g3⟩ := outOf_eq ho
        rw [g1, g2] at hn
        obtain ⟨w', u1, u2, u3⟩ := updateE_run r (ev_rel hf e1) (ev_rel hf e2) (ev_rel hf e3) hu
        unfold Oper.wp
        have : (execOp a.eval o).run E.P w = .ok .skip w' := by unfold execOp; rw [hop]; simp [u1]
        rw [this]
        exact hn undef w' F m (Ext.refl _ _) (by simp [VRel, VL, undef]) u2 u3
      · cases ho
    · cases ho
  · -- a map literal's entry
    rename_i t mo ko xo hop
    split at ho
    · rename_i mp k z e1 e2 e3
      split at ho
      · rename_i h' id hu
        injection ho with ho
        obtain ⟨g1, g2, g3⟩ := outOf_eq ho
        rw [g1, g2] at hn
        obtain ⟨w', u1, u2, u3⟩ := updateE_run r (ev_rel hf e1) (ev_rel hf e2) (ev_rel hf e3) hu
        unfold Oper.wp
        have : (execOp a.eval o).run E.P w = .ok .skip w' := by unfold execOp; rw [hop]; simp [u1]
        rw [this]
        exact hn undef w' F m (Ext.refl _ _) (by simp [VRel, VL, undef]) u2 u3
      · cases ho
    · cases ho
  · -- a map read
    rename_i t mo ko ok hop
    split at ho
    · rename_i mp k e1 e2
      split at ho
      · rename_i y hy
        injection ho with ho
        obtain ⟨g1, g2, g3⟩ := outOf_eq ho
        rw [g1, g2] at hn
        obtain ⟨v, v1, v2⟩ := lookupE_run hE r (ev_rel hf e1) (ev_rel hf e2) hy
        unfold Oper.wp
        have : (execOp a.eval o).run E.P w = .ok (.value v) w := by unfold execOp; rw [hop]; simp [v1]
        rw [this]
        exact hn v w F m (Ext.refl _ _) v2 r (Same.refl _)
      · cases ho
    · cases ho
  · split at ho
    · rename_i y h' s hp
      injection ho with ho
      obtain ⟨g1, g2, g3⟩ := outOf_eq ho
      rw [g1, g2] at hn
      exact good_wp (opE_sound hE r hf hp) hn
    · cases ho

/-! ### A row of operations in its order -/
theorem SRel.next {nt : Nat} {st : St} (s : SRel F m nt st a w) {F' : Fz} {m' : Mp} {w' : World} {dst : Option Tmp} {y : AV} {v : Value} {fr' : FR} {h' : Heap} {ds ls : List Nat} (he : Ext F m F' m') (hp : putF nt st.fr dst y = some fr') (hv : VRel F' m' y v)
    (hr : Rel F' m' h' w') : SRel F' m' nt ⟨fr', h', ds, ls⟩ (a.put dst v) w' := by
  obtain ⟨g1, g2, g3⟩ := put_rel_F (s.fr.mono he) s.size hp hv
  exact ⟨hr, g1, g2, by rw [g3]; exact s.defers⟩

/-- ONE STEP of a region, whether it is carried out or not. -/
theorem stepO_sound {E : Env} {K : CallK} (hE : E.ZerosOK) (hK : CallOK E.P K) {f : FuncId} {nt n0 : Nat} {ops : Array Oper} {i : Nat} {o : Oper} (hi : ops[i]? = some o) {st st' : St} {c : Cl} (hs : stepO E K f nt n0 ops o st = some (st', c)) (s : SRel F m nt st a w)
    {next : Act → World → Prop} {Q : Exit → Act → World → Prop} (hn : ∀ a' w' F' m', Ext F m F' m' → SRel F' m' nt st' a' w' → Same w w' → next a' w') : wpOp E.P ops Q i next a w := by
  unfold wpOp
  rw [hi]
  dsimp only
  unfold stepO at hs
  split at hs
  · rename_i hw
    rw [wantedE_rel s.fr hw]
    split at hs
    · rename_i fr' hp
      simp only [Option.some.injEq, Prod.mk.injEq] at hs
      obtain ⟨rfl, rfl⟩ := hs
      simp only [Bool.false_eq_true, if_false]
      exact hn _ _ F m (Ext.refl _ _) (s.next (Ext.refl _ _) hp (by simp [VRel, VL, undef]) s.rel) (Same.refl _)
    · cases hs
  · rename_i hw
    rw [wantedE_rel s.fr hw]
    split at hs
    · rename_i x hx
      split at hs
      · rename_i fr' hp
        simp only [Option.some.injEq, Prod.mk.injEq] at hs
        obtain ⟨rfl, rfl⟩ := hs
        simp only [if_true]
        refine .inl (coreO_sound hE hK s.rel s.fr hx fun v w' F' m' he hv hr hsm => ?_)
        exact hn _ _ F' m' he (s.next he hp hv hr) hsm
      · cases hs
    · cases hs
  · cases hs

theorem runOps_sound {E : Env} {K : CallK} (hE : E.ZerosOK) (hK : CallOK E.P K) {f : FuncId} {nt n0 : Nat} {ops : Array Oper} {Q : Exit → Act → World → Prop} {st' : St} {cs' : List Cl} :
    ∀ (os : List Oper) (i : Nat) (st : St) (cs : List Cl) (F : Fz) (m : Mp) (a : Act) (w : World), (∀ j, os[j]? = ops[i + j]?) → runOps E K f nt n0 ops os st cs = some (st', cs') → SRel F m nt st a w →
      (∀ a' w' F' m', Ext F m F' m' → SRel F' m' nt st' a' w' → Same w w' → Q .normal a' w') → wpOps E.P ops Q (List.range' i os.length) a w
  | [], i, st, cs, F, m, a, w, _, hs, s, hq => by
    simp only [runOps, Option.some.injEq, Prod.mk.injEq] at hs
    obtain ⟨rfl, rfl⟩ := hs
    exact hq a w F m (Ext.refl _ _) s (Same.refl _)
  | o :: os, i, st, cs, F, m, a, w, ho, hs, s, hq => by
    simp only [runOps] at hs
    split at hs
    · rename_i st1 c hstep
      have hi : ops[i]? = some o := by have := ho 0; simpa using this.symm
      rw [List.length_cons, List.range'_succ, wpOps_cons]
      refine stepO_sound hE hK hi hstep s fun a' w' F' m' he s' hsm => ?_
      refine runOps_sound hE hK os (i + 1) st1 (c :: cs) F' m' a' w' (fun j => ?_) hs s' fun a2 w2 F2 m2 he2 s2 hsm2 => hq a2 w2 F2 m2 (he.trans he2) s2 (hsm.trans hsm2)
      have := ho (j + 1)
      rw [List.getElem?_cons_succ] at this
      rw [this]
      congr 1
      omega
    · cases hs

end Go.AM
