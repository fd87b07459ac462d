/- Calls of the abstract machine are calls of the real one. Conditions: none. -/
import Derived.Test.YtobdjegooonklaaGreatAmFin
set_option linter.unusedVariables false
set_option linter.unusedSimpArgs false
namespace Go.AM
open Go

variable {F F' : Fz} {m m' : Mp} {fr : FR} {a : Act} {h : Heap} {w : World} {P : Program}

/-! ### Results -/
def resM (tmps : Array Value) : ResultVar → Sem Value
  | .tmp t => pure (tmps.getD t undef)
  | .cell a t => do loadVar t (← asAddr (tmps.getD a undef))

theorem resultE_run {nt : Nat} {st : St} (s : SRel F m nt st a w) {x : ResultVar} {y : AV} (hx : resultE P st x = some y) : ∃ v, (resM a.tmps x).run P w = .ok v w ∧ VRel F m y v := by
  cases x with
  | tmp t =>
    simp only [resultE] at hx
    obtain ⟨v, v1, v2⟩ := s.fr.get t y hx
    exact ⟨v, by simp [resM, v1], v2⟩
  | cell p t =>
    simp only [resultE] at hx
    split at hx
    · rename_i q hq
      obtain ⟨pv, p1, p2⟩ := s.fr.get p q hq
      obtain ⟨ad, v, v1, v2, v3, v4⟩ := loadE_run s.rel p2 hx
      subst v1
      exact ⟨v, by simp [-bind_pure_comp, resM, p1, asAddr, v2], v3⟩
    · cases hx

theorem resultsE_run {nt : Nat} {st : St} (s : SRel F m nt st a w) : ∀ {l : List ResultVar} {rs : List AV}, resultsE P st l = some rs → ∃ vs, (l.mapM (resM a.tmps)).run P w = .ok vs w ∧ VL F m rs vs
  | [], rs, h => by
    simp only [resultsE, Option.some.injEq] at h
    subst h
    exact ⟨[], by simp, by simp [VL]⟩
  | x :: l, rs, h => by
    simp only [resultsE] at h
    split at h
    · rename_i y ys h1 h2
      simp only [Option.some.injEq] at h
      subst h
      obtain ⟨v, v1, v2⟩ := resultE_run s h1
      obtain ⟨vs, v3, v4⟩ := resultsE_run s h2
      refine ⟨v :: vs, by simp [-bind_pure_comp, v1, v3], by simp only [VL]; exact ⟨v, vs, v2, v4, rfl⟩⟩
    · cases h

theorem results_run {nt : Nat} {st : St} (s : SRel F m nt st a w) {fn : Func} {rs : List AV} (hr : resultsE P st fn.results.toList = some rs) : ∃ v, (results fn a.tmps).run P w = .ok v w ∧ VRel F m (oneOrTup rs) v := by
  obtain ⟨vs, v1, v2⟩ := resultsE_run s hr
  have hm := mapM_array (P := P) fn.results (resM a.tmps) vs w v1
  have e : results fn a.tmps = (do let vs ← fn.results.mapM (resM a.tmps); pure (if h : vs.size = 1 then vs[0] else .tuple vs)) := by
    unfold results
    congr 1
  have hl := VL_len v2
  rw [e]
  refine ⟨if h : vs.toArray.size = 1 then vs.toArray[0] else .tuple vs.toArray, by simp [-bind_pure_comp, hm], ?_⟩
  cases rs with
  | nil =>
    simp only [VL] at v2
    subst v2
    simp [oneOrTup, VRel, VL]
  | cons x rs =>
    cases rs with
    | nil =>
      simp only [VL] at v2
      obtain ⟨y, ds, g1, rfl, rfl⟩ := v2
      simpa [oneOrTup] using g1
    | cons x' rs =>
      have : ¬ (vs.toArray.size = 1) := by simp [hl]
      rw [dif_neg this]
      simp only [oneOrTup, VRel]
      exact ⟨vs, v2, rfl⟩

/-! ### Arguments -/
theorem args0_get : ∀ (l : List AV) (vs : List Value) (i t : Nat) (y : AV), VL F m l vs → get (args0 i l) t = some y → ∃ j v, t = i + j ∧ vs[j]? = some v ∧ VRel F m y v
  | [], vs, i, t, y, hv, h => by simp [args0, get] at h
  | x :: l, vs, i, t, y, hv, h => by
    simp only [VL] at hv
    obtain ⟨v, ds, g1, g2, rfl⟩ := hv
    simp only [args0, get] at h
    cases hb : Nat.beq i t with
    | true =>
      simp only [hb, cond_true, Option.some.injEq] at h
      subst h
      exact ⟨0, v, by simpa using (Nat.eq_of_beq_eq_true hb).symm, rfl, g1⟩
    | false =>
      simp only [hb, cond_false] at h
      obtain ⟨j, u, h1, h2, h3⟩ := args0_get l ds (i + 1) t y g2 h
      exact ⟨j + 1, u, by omega, by simpa using h2, h3⟩

/-! ### The program -/
def funcOK (E : Env) (f : FuncId) (fn : Func) : Bool := !(fn.name == "runtime.NumGoroutine") && match fn.body with
  | some c => codeOK E f c
  | none => true

def funcsOK (E : Env) : Nat → List Func → Bool
  | _, [] => true
  | i, fn :: l => funcOK E i fn && funcsOK E (i + 1) l

def Env.ProgOK (E : Env) : Prop := ∀ (f : FuncId) fn, E.P.funcs[f]? = some fn → funcOK E f fn = true

theorem funcsOK_spec {E : Env} : ∀ (l : List Func) (i : Nat), funcsOK E i l = true → ∀ (j : Nat) fn, l[j]? = some fn → funcOK E (i + j) fn = true
  | [], i, h, j, fn, hj => by simp at hj
  | x :: l, i, h, j, fn, hj => by
    simp only [funcsOK, Bool.and_eq_true] at h
    cases j with
    | zero => simp at hj; subst hj; exact h.1
    | succ j =>
      rw [List.getElem?_cons_succ] at hj
      have := funcsOK_spec l (i + 1) h.2 j fn hj
      rw [show i + (j + 1) = i + 1 + j by omega]
      exact this

theorem progOK_of {E : Env} (h : funcsOK E 0 E.P.funcs.toList = true) : E.ProgOK := fun f fn hf => by
  have := funcsOK_spec _ 0 h f fn (by simpa using hf)
  simpa using this

structure OvOK (P : Program) (f : FuncId) (o : List AV → Heap → Option (AV × Heap × Eff)) : Prop where
  sound : ∀ args h y h' e, o args h = some (y, h', e) → ∀ F m w vs, Rel F m h w → VL F m args vs → ∀ next : Value → World → Prop,
    (∀ v w' F' m', Ext F m F' m' → VRel F' m' y v → Rel F' m' h' w' → Same w w' → next v w') → UponC P next ((callFunc f vs.toArray).run P w)
  quiet : ∀ args h y h' e, o args h = some (y, h', e) → e.q = true → h' = h ∧ e.ds = [] ∧ e.ls = []
  law : ∀ args h y h' e, o args h = some (y, h', e) → Law h h' e.ds e.ls

def Env.OvsOK (E : Env) : Prop := ∀ f o, E.ov f = some o → OvOK E.P f o

theorem callFunc_enter {f : FuncId} {fn : Func} {c : Code} (hf : P.funcs[f]? = some fn) (hb : fn.body = some c) (hn : (fn.name == "runtime.NumGoroutine") = false) (vs : Array Value) :
    (callFunc f vs).run P w = .ok (.enter f vs) w := by
  have hn' : ¬ fn.name = "runtime.NumGoroutine" := by simpa using hn
  simp [callFunc, hf, hb, hn']

structure Env.OK (E : Env) : Prop where
  mixed : E.P.follows .mixedOrders = true
  zeros : E.ZerosOK
  prog : E.ProgOK
  ovs : E.OvsOK

/-- EVERY CALL. -/
theorem call_ok {E : Env} (H : E.OK) : ∀ n, CallOK E.P (call E n) ∧ QuietK (call E n) ∧ LawK (call E n) := by
  intro n
  induction n with
  | zero => exact ⟨fun f args h y h' e hc => by simp [call] at hc, fun f args h y h' e hc => by simp [call] at hc, fun f args h y h' e hc => by simp [call] at hc⟩
  | succ n ih =>
    obtain ⟨ihK, ihQ, ihL⟩ := ih
    have open_ : ∀ f args h y h' e, call E (n + 1) f args h = some (y, h', e) → (∃ o, E.ov f = some o ∧ o args h = some (y, h', e)) ∨
        ∃ fn c ex st rs, E.P.funcs[f]? = some fn ∧ fn.body = some c ∧ args.length ≤ fn.ntmps ∧ exec E (call E n) n f fn.ntmps h.length c ⟨args0 0 args, h, [], []⟩ = some (ex, st) ∧ (ex = .normal ∨ ex = .ret) ∧ resultsE E.P st fn.results.toList = some rs ∧
          finish (E.keep f) h st (oneOrTup rs) = (y, h', e) := by
      intro f args h y h' e hc
      simp only [call] at hc
      split at hc
      · rename_i o ho
        exact .inl ⟨o, ho, hc⟩
      · split at hc
        · rename_i fn hf
          split at hc
          · rename_i c hb
            cases hl : Nat.ble args.length fn.ntmps with
            | false => simp [hl] at hc
            | true =>
              simp only [hl, cond_true] at hc
              right
              split at hc
              · rename_i st hx
                split at hc
                · rename_i rs hr
                  injection hc with hc
                  exact ⟨fn, c, .normal, st, rs, hf, hb, Nat.le_of_ble_eq_true hl, hx, .inl rfl, hr, hc⟩
                · cases hc
              · rename_i st hx
                split at hc
                · rename_i rs hr
                  injection hc with hc
                  exact ⟨fn, c, .ret, st, rs, hf, hb, Nat.le_of_ble_eq_true hl, hx, .inr rfl, hr, hc⟩
                · cases hc
              · cases hc
          · cases hc
        · cases hc
    refine ⟨?_, ?_, ?_⟩
    · intro f args h y h' e hc F m w vs r hv next hn
      rcases open_ f args h y h' e hc with ⟨o, ho, hc⟩ | ⟨fn, c, ex, st, rs, hf, hb, hl, hx, hex, hr, hfin⟩
      · exact (H.ovs f o ho).sound args h y h' e hc F m w vs r hv next hn
      · have hok := H.prog f fn hf
        simp only [funcOK, hb, Bool.and_eq_true] at hok
        have hname : (fn.name == "runtime.NumGoroutine") = false := by simpa using hok.1
        rw [callFunc_enter hf hb hname]
        simp only [UponC]
        refine calls_of_wp hf hb ?_
        have hvl := VL_len hv
        have s0 : SRel F m fn.ntmps ⟨args0 0 args, h, [], []⟩ { tmps := vs.toArray ++ Array.replicate (fn.ntmps - vs.toArray.size) undef, defers := [] } w := by
          refine ⟨r, ⟨fun t z hz => ?_⟩, by simp; omega, rfl⟩
          obtain ⟨j, v, h1, h2, h3⟩ := args0_get args vs 0 t z hv hz
          have ht : t = j := by omega
          subst ht
          have hlt := lt_of_getElem? h2
          refine ⟨v, ?_, h3⟩
          rw [Array.getElem?_append_left (by simpa using hlt)]
          simpa using h2
        refine (exec_sound H.mixed H.zeros ihK ihQ c hok.2).1 _ ex st hx F m _ w s0 _ fun a' w' F' m' he s' hsm => ?_
        obtain ⟨v, v1, v2⟩ := results_run s' hr
        have law := (exec_law H.zeros ihL c).1 _ ex st hx
        obtain ⟨F2, m2, g1, g2, g3⟩ := finish_sound r s'.rel he rfl rfl rfl law v2 hfin
        have post : a'.defers = [] ∧ ∃ v, (results fn a'.tmps).run E.P w' = .ok v w' ∧ (∃ u, Ending.returned v = .returned u ∧ next u w') :=
          ⟨s'.defers, v, v1, v, rfl, hn v w' F2 m2 g1 g2 g3 hsm⟩
        rcases hex with rfl | rfl
        · exact post
        · exact post
    · intro f args h y h' e hc hq
      rcases open_ f args h y h' e hc with ⟨o, ho, hc⟩ | ⟨fn, c, ex, st, rs, hf, hb, hl, hx, hex, hr, hfin⟩
      · exact (H.ovs f o ho).quiet args h y h' e hc hq
      · exact finish_quiet hfin hq
    · intro f args h y h' e hc
      rcases open_ f args h y h' e hc with ⟨o, ho, hc⟩ | ⟨fn, c, ex, st, rs, hf, hb, hl, hx, hex, hr, hfin⟩
      · exact (H.ovs f o ho).law args h y h' e hc
      · exact finish_law (st0 := ⟨args0 0 args, h, [], []⟩) rfl ((exec_law H.zeros ihL c).1 _ ex st hx) hfin

end Go.AM
