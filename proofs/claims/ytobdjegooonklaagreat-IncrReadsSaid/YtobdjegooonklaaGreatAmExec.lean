/- Code of the abstract machine is code of the real one. Conditions: none. -/
import Derived.Test.YtobdjegooonklaaGreatAmDraw3
set_option linter.unusedVariables false
set_option linter.unusedSimpArgs false
namespace Go.AM
open Go

variable {F : Fz} {m : Mp} {fr : FR} {a : Act} {h : Heap} {w : World} {P : Program}

/-! ### A scope, by the number of its jumps -/
def Exit.hop (c : Code) (H : Nat → Act → World → Prop) (Q : Exit → Act → World → Prop) : Exit → Act → World → Prop
  | .goto l, a, w => match findLabel c l with
    | some _ => H l a w
    | none => Q (.goto l) a w
  | e, a, w => Q e a w

def hops (P : Program) (c : Code) (Q : Exit → Act → World → Prop) : Nat → Nat → Act → World → Prop
  | 0, _, _, _ => False
  | n + 1, l, a, w => ∃ rest, findLabel c l = some rest ∧ rest.wp P (Exit.hop c (hops P c Q n) Q) a w

theorem wp_scope_hops {c : Code} {Q : Exit → Act → World → Prop} (n : Nat) (h : c.wp P (Exit.hop c (hops P c Q n) Q) a w) : (Code.scope c).wp P Q a w := by
  intro b k cs
  have key : ∀ n l a w, hops P c Q n l a w → ∃ rest, findLabel c l = some rest ∧ ∃ e a' w', Q e a' w' ∧ Arrives P (lone (b.at a (.code rest :: .inScope c :: k)) cs w) b k cs e a' w' := by
    intro n
    induction n with
    | zero => intro l a w h; exact h.elim
    | succ n ih =>
      intro l a w h
      obtain ⟨rest, hf, h⟩ := h
      refine ⟨rest, hf, ?_⟩
      obtain ⟨e, a₁, w₁, hq, harr⟩ := h b (.inScope c :: k) cs
      cases e with
      | normal => exact ⟨.normal, a₁, w₁, hq, Steps.trans harr (.one step_inScope)⟩
      | exit id => exact ⟨.exit id, a₁, w₁, hq, fun k' hk => harr k' (by simp [exitTo, hk])⟩
      | goto l' =>
        simp only [Exit.hop] at hq
        cases hl : findLabel c l' with
        | none =>
          rw [hl] at hq
          exact ⟨.goto l', a₁, w₁, hq, fun k' hk => harr k' (by simp [gotoIn, hl, hk])⟩
        | some rest' =>
          rw [hl] at hq
          obtain ⟨rest2, hf2, e₂, a₂, w₂, hq₂, harr₂⟩ := ih l' a₁ w₁ hq
          exact ⟨e₂, a₂, w₂, hq₂, .of_steps (harr _ (by simp [gotoIn, hf2])) harr₂⟩
      | ret => exact ⟨_, a₁, w₁, hq, harr⟩
      | panic ch => exact ⟨_, a₁, w₁, hq, harr⟩
      | outgrown => exact ⟨_, a₁, w₁, hq, harr⟩
  obtain ⟨e, a₁, w₁, hq, harr⟩ := h b (.inScope c :: k) cs
  cases e with
  | normal => exact ⟨.normal, a₁, w₁, hq, .head step_scope (Steps.trans harr (.one step_inScope))⟩
  | exit id => exact ⟨.exit id, a₁, w₁, hq, fun k' hk => .head step_scope (harr k' (by simp [exitTo, hk]))⟩
  | goto l' =>
    simp only [Exit.hop] at hq
    cases hl : findLabel c l' with
    | none =>
      rw [hl] at hq
      exact ⟨.goto l', a₁, w₁, hq, fun k' hk => .head step_scope (harr k' (by simp [gotoIn, hl, hk]))⟩
    | some rest' =>
      rw [hl] at hq
      obtain ⟨rest2, hf2, e₂, a₂, w₂, hq₂, harr₂⟩ := key n l' a₁ w₁ hq
      exact ⟨e₂, a₂, w₂, hq₂, .of_steps (.head step_scope (harr _ (by simp [gotoIn, hf2]))) harr₂⟩
  | ret => exact ⟨_, a₁, w₁, hq, .of_steps (.one step_scope) harr⟩
  | panic ch => exact ⟨_, a₁, w₁, hq, .of_steps (.one step_scope) harr⟩
  | outgrown => exact ⟨_, a₁, w₁, hq, .of_steps (.one step_scope) harr⟩

theorem hasLabel_eq : ∀ (c : Code) (l : Nat), hasLabel c l = (findLabel c l).isSome
  | .seq x y, l => by
    simp only [hasLabel, findLabel, hasLabel_eq x l, hasLabel_eq y l]
    cases findLabel x l <;> cases findLabel y l <;> rfl
  | .label l', l => by
    simp only [hasLabel, findLabel]
    by_cases e : l' = l
    · subst e; simp
    · have : Nat.beq l' l = false := by
        cases hn : Nat.beq l' l with
        | false => rfl
        | true => exact (e (Nat.eq_of_beq_eq_true hn)).elim
      simp [this, e]
  | .skip, _ | .region _ _ _, _ | .cond _ _ _, _ | .block _ _, _ | .loop _, _ | .rangeFunc _ _ _ _, _ | .exit _, _ | .scope _, _ | .goto _, _ | .ret, _ | .refuse _, _ => rfl

/-! ### Masks -/
theorem keepF_get : ∀ (l : List Nat) (fr : FR) (t : Nat) (y : AV), get (keepF l fr) t = some y → get fr t = some y
  | [], fr, t, y, h => by simp [keepF, get] at h
  | k :: l, fr, t, y, h => by
    simp only [keepF] at h
    split at h
    · rename_i z hz
      simp only [get] at h
      cases hb : Nat.beq k t with
      | true =>
        rw [hb, cond_true] at h
        have := Nat.eq_of_beq_eq_true hb
        subst this
        rw [hz, h]
      | false =>
        rw [hb, cond_false] at h
        exact keepF_get l fr t y h
    · exact keepF_get l fr t y h

theorem SRel.mask {nt : Nat} {st : St} (s : SRel F m nt st a w) (l : List Nat) : SRel F m nt (maskS l st) a w :=
  ⟨s.rel, ⟨fun t y h => s.fr.get t y (keepF_get l st.fr t y h)⟩, s.size, s.defers⟩

/-! ### Code -/
def codeOK (E : Env) (f : FuncId) : Code → Bool
  | .region id ops draw => bif draw then drawOK ops (E.pairs f id) else true
  | .seq x y | .cond _ x y => codeOK E f x && codeOK E f y
  | .block _ x | .loop x | .scope x => codeOK E f x
  | _ => true

def exOf : Ex → Exit
  | .normal => .normal
  | .exit id => .exit id
  | .goto l => .goto l
  | .ret => .ret

/-- What a run of the abstract machine gives of a code's run. -/
def Runs (P : Program) (nt : Nat) (c : Code) (st : St) (r : Option (Ex × St)) : Prop := ∀ ex st', r = some (ex, st') → ∀ F m a w, SRel F m nt st a w → ∀ Q : Exit → Act → World → Prop,
  (∀ a' w' F' m', Ext F m F' m' → SRel F' m' nt st' a' w' → Same w w' → Q (exOf ex) a' w') → c.wp P Q a w

section
variable {E : Env} {K : CallK} {nl : Nat} {f : FuncId} {nt n0 : Nat}

theorem runs_loop {c : Code} {l : List Nat} {body : St → Option (Ex × St)} (hb : ∀ st, Runs P nt c st (body st)) : ∀ (n : Nat) (st : St) (ex : Ex) (st' : St), loopN body l n st = some (ex, st') → ∀ F m a w, SRel F m nt st a w → ∀ Q : Exit → Act → World → Prop,
    (∀ a' w' F' m', Ext F m F' m' → SRel F' m' nt st' a' w' → Same w w' → Q (exOf ex) a' w') → Code.rounds P c Q n a w
  | 0, st, ex, st', h, _, _, _, _, _, _, _ => by simp [loopN] at h
  | n + 1, st, ex, st', h, F, m, a, w, s, Q, hq => by
    rw [rounds_succ]
    simp only [loopN] at h
    split at h
    · rename_i st1 h1
      refine hb _ _ _ h1 F m a w (s.mask l) _ fun a1 w1 F1 m1 he s1 hsm => ?_
      exact runs_loop hb n st1 ex st' h F1 m1 a1 w1 s1 Q fun a2 w2 F2 m2 he2 s2 hsm2 => hq a2 w2 F2 m2 (he.trans he2) s2 (hsm.trans hsm2)
    · rename_i hne
      refine hb _ _ _ h F m a w (s.mask l) _ fun a1 w1 F1 m1 he s1 hsm => ?_
      have := hq a1 w1 F1 m1 he s1 hsm
      cases ex with
      | normal => exact (hne st' h).elim
      | exit id => exact this
      | goto g => exact this
      | ret => exact this

theorem runs_scope {c : Code} {l : List Nat} {from_ : Nat → St → Option (Ex × St)} (hf : ∀ g st rest, findLabel c g = some rest → Runs P nt rest st (from_ g st)) :
    ∀ (n : Nat) (st : St) (r : Option (Ex × St)) (ex : Ex) (st' : St), scopeN from_ (hasLabel c) l n r = some (ex, st') → ∀ (d : Code), Runs P nt d st r → ∀ F m a w, SRel F m nt st a w → ∀ Q : Exit → Act → World → Prop,
    (∀ a' w' F' m', Ext F m F' m' → SRel F' m' nt st' a' w' → Same w w' → Q (exOf ex) a' w') → d.wp P (Exit.hop c (hops P c Q n) Q) a w
  | 0, st, r, ex, st', h, _, _, _, _, _, _, _, _, _ => by simp [scopeN] at h
  | n + 1, st, r, ex, st', h, d, hd, F, m, a, w, s, Q, hq => by
    simp only [scopeN] at h
    split at h
    · rename_i g st1
      refine hd _ _ rfl F m a w s _ fun a1 w1 F1 m1 he s1 hsm => ?_
      simp only [exOf, Exit.hop]
      cases hl : findLabel c g with
      | none =>
        have hh : hasLabel c g = false := by rw [hasLabel_eq, hl]; rfl
        simp only [hh, cond_false, Option.some.injEq, Prod.mk.injEq] at h
        obtain ⟨rfl, rfl⟩ := h
        exact hq a1 w1 F1 m1 he s1 hsm
      | some rest =>
        have hh : hasLabel c g = true := by rw [hasLabel_eq, hl]; rfl
        simp only [hh, cond_true] at h
        refine ⟨rest, hl, ?_⟩
        exact runs_scope hf n (maskS l st1) _ ex st' h rest (hf g _ rest hl) F1 m1 a1 w1 (s1.mask l) Q fun a2 w2 F2 m2 he2 s2 hsm2 => hq a2 w2 F2 m2 (he.trans he2) s2 (hsm.trans hsm2)
    · rename_i hne
      refine hd _ _ h F m a w s _ fun a1 w1 F1 m1 he s1 hsm => ?_
      have := hq a1 w1 F1 m1 he s1 hsm
      cases ex with
      | normal => exact this
      | exit id => exact this
      | goto g => exact (hne g st' h).elim
      | ret => exact this

theorem runs_seq {x y : Code} {st : St} {r1 r : Option (Ex × St)} (h1 : Runs P nt x st r1) (hr : r = match r1 with | some (.normal, st') => none | r => r) (k : ∀ st1, r1 = some (.normal, st1) → False) : Runs P nt (.seq x y) st r := by
  intro ex st' he F m a w s Q hq
  refine wp_seq (h1 ex st' ?_ F m a w s _ fun a1 w1 F1 m1 hx s1 hsm => ?_)
  · rw [hr] at he
    split at he
    · cases he
    · exact he
  · have := hq a1 w1 F1 m1 hx s1 hsm
    rw [hr] at he
    split at he
    · cases he
    · cases ex with
      | normal => exact (k _ he).elim
      | exit id => exact this
      | goto g => exact this
      | ret => exact this

theorem runs_seq' {x y : Code} {st st1 : St} {r : Option (Ex × St)} (h1 : Runs P nt x st (some (.normal, st1))) (h2 : Runs P nt y st1 r) : Runs P nt (.seq x y) st r := by
  intro ex st' he F m a w s Q hq
  refine wp_seq (h1 _ _ rfl F m a w s _ fun a1 w1 F1 m1 hx s1 hsm => ?_)
  exact h2 ex st' he F1 m1 a1 w1 s1 Q fun a2 w2 F2 m2 he2 s2 hsm2 => hq a2 w2 F2 m2 (hx.trans he2) s2 (hsm.trans hsm2)

theorem runs_then {x y : Code} {st : St} {r1 : Option (Ex × St)} {k : St → Option (Ex × St)} (h1 : Runs P nt x st r1) (h2 : ∀ st1, Runs P nt y st1 (k st1)) :
    Runs P nt (.seq x y) st (match (generalizing := false) r1 with | some (.normal, st') => k st' | r => r) := by
  split
  · rename_i st1
    exact runs_seq' h1 (h2 st1)
  · rename_i hne
    refine runs_seq h1 ?_ fun st1 e => hne st1 e
    split
    · exact (hne _ rfl).elim
    · rfl

/-- CODE: from its beginning, and from a label. -/
theorem exec_sound (hm : E.P.follows .mixedOrders = true) (hE : E.ZerosOK) (hK : CallOK E.P K) (hQ : QuietK K) : ∀ (c : Code), codeOK E f c = true →
    (∀ st, Runs E.P nt c st (exec E K nl f nt n0 c st)) ∧ ∀ l st rest, findLabel c l = some rest → Runs E.P nt rest st (execFrom E K nl f nt n0 c l st) := by
  intro c
  induction c with
  | skip =>
    intro hc
    refine ⟨fun st ex st' he F m a w s Q hq => ?_, fun l st rest h => by simp [findLabel] at h⟩
    simp only [exec, Option.some.injEq, Prod.mk.injEq] at he
    obtain ⟨rfl, rfl⟩ := he
    exact wp_skip (hq a w F m (Ext.refl _ _) s (Same.refl _))
  | label l' =>
    intro hc
    refine ⟨fun st ex st' he F m a w s Q hq => ?_, fun l st rest h => ?_⟩
    · simp only [exec, Option.some.injEq, Prod.mk.injEq] at he
      obtain ⟨rfl, rfl⟩ := he
      exact wp_label (hq a w F m (Ext.refl _ _) s (Same.refl _))
    · simp only [findLabel] at h
      split at h
      · rename_i hl
        simp only [Option.some.injEq] at h
        subst h
        intro ex st' he F m a w s Q hq
        have : Nat.beq l' l = true := by simpa using hl
        simp only [execFrom, this, cond_true, Option.some.injEq, Prod.mk.injEq] at he
        obtain ⟨rfl, rfl⟩ := he
        exact wp_skip (hq a w F m (Ext.refl _ _) s (Same.refl _))
      · cases h
  | region id ops draw =>
    intro hc
    refine ⟨fun st ex st' he F m a w s Q hq => ?_, fun l st rest h => by simp [findLabel] at h⟩
    simp only [exec] at he
    split at he
    · rename_i st1 cs hr
      cases draw with
      | true =>
        simp only [codeOK, cond_true] at hc he
        cases hp : pairsOK cs (E.pairs f id) with
        | false => simp [hp] at he
        | true =>
          simp only [hp, cond_true, Option.some.injEq, Prod.mk.injEq] at he
          obtain ⟨rfl, rfl⟩ := he
          exact region_draw hm hE hK hQ hc hr hp s hq
      | false =>
        simp only [cond_false, Option.some.injEq, Prod.mk.injEq] at he
        obtain ⟨rfl, rfl⟩ := he
        refine wp_region ?_
        have := runOps_sound (Q := Q) hE hK ops.toList 0 st [] F m a w (fun j => by simp) hr s hq
        rw [List.range_eq_range']
        simpa using this
    · cases he
  | seq x y ihx ihy =>
    intro hc
    simp only [codeOK, Bool.and_eq_true] at hc
    obtain ⟨x1, x2⟩ := ihx hc.1
    obtain ⟨y1, y2⟩ := ihy hc.2
    refine ⟨fun st => ?_, fun l st rest h => ?_⟩
    · simp only [exec]
      exact runs_then (x1 st) y1
    · simp only [findLabel] at h
      simp only [execFrom]
      rw [hasLabel_eq]
      cases hl : findLabel x l with
      | none =>
        rw [hl] at h
        exact y2 l st rest h
      | some r =>
        rw [hl] at h
        simp only [Option.some.injEq] at h
        subst h
        simp only [Option.isSome_some, cond_true]
        exact runs_then (x2 l st r hl) y1
  | cond c x y ihx ihy =>
    intro hc
    simp only [codeOK, Bool.and_eq_true] at hc
    obtain ⟨x1, _⟩ := ihx hc.1
    obtain ⟨y1, _⟩ := ihy hc.2
    refine ⟨fun st ex st' he F m a w s Q hq => ?_, fun l st rest h => by simp [findLabel] at h⟩
    simp only [exec] at he
    split at he
    · rename_i t ht
      have hv := ev_rel s.fr ht
      simp only [VRel] at hv
      cases t with
      | true => exact wp_cond_true hv.2 (x1 st ex st' he F m a w s Q hq)
      | false => exact wp_cond_false hv.2 (y1 st ex st' he F m a w s Q hq)
    · cases he
  | block id x ih =>
    intro hc
    simp only [codeOK] at hc
    obtain ⟨x1, _⟩ := ih hc
    refine ⟨fun st ex st' he F m a w s Q hq => ?_, fun l st rest h => by simp [findLabel] at h⟩
    simp only [exec] at he
    refine wp_block ?_
    split at he
    · rename_i i st1 h1
      refine x1 st _ _ h1 F m a w s _ fun a1 w1 F1 m1 hx s1 hsm => ?_
      simp only [exOf, Exit.inBlock]
      cases hb : Nat.beq i id with
      | true =>
        simp only [hb, cond_true, Option.some.injEq, Prod.mk.injEq] at he
        obtain ⟨rfl, rfl⟩ := he
        rw [if_pos (Nat.eq_of_beq_eq_true hb)]
        exact hq a1 w1 F1 m1 hx s1 hsm
      | false =>
        simp only [hb, cond_false, Option.some.injEq, Prod.mk.injEq] at he
        obtain ⟨rfl, rfl⟩ := he
        rw [if_neg (fun e => by subst e; simp at hb)]
        exact hq a1 w1 F1 m1 hx s1 hsm
    · rename_i hne
      refine x1 st _ _ he F m a w s _ fun a1 w1 F1 m1 hx s1 hsm => ?_
      have := hq a1 w1 F1 m1 hx s1 hsm
      cases ex with
      | normal => exact this
      | exit id => exact (hne id st' he).elim
      | goto g => exact this
      | ret => exact this
  | loop x ih =>
    intro hc
    simp only [codeOK] at hc
    obtain ⟨x1, _⟩ := ih hc
    refine ⟨fun st ex st' he F m a w s Q hq => ?_, fun l st rest h => by simp [findLabel] at h⟩
    simp only [exec] at he
    exact wp_loop_rounds nl (runs_loop x1 nl st ex st' he F m a w s Q hq)
  | exit id =>
    intro hc
    refine ⟨fun st ex st' he F m a w s Q hq => ?_, fun l st rest h => by simp [findLabel] at h⟩
    simp only [exec, Option.some.injEq, Prod.mk.injEq] at he
    obtain ⟨rfl, rfl⟩ := he
    exact wp_exit (hq a w F m (Ext.refl _ _) s (Same.refl _))
  | goto g =>
    intro hc
    refine ⟨fun st ex st' he F m a w s Q hq => ?_, fun l st rest h => by simp [findLabel] at h⟩
    simp only [exec, Option.some.injEq, Prod.mk.injEq] at he
    obtain ⟨rfl, rfl⟩ := he
    exact wp_goto (hq a w F m (Ext.refl _ _) s (Same.refl _))
  | ret =>
    intro hc
    refine ⟨fun st ex st' he F m a w s Q hq => ?_, fun l st rest h => by simp [findLabel] at h⟩
    simp only [exec, Option.some.injEq, Prod.mk.injEq] at he
    obtain ⟨rfl, rfl⟩ := he
    exact wp_ret (hq a w F m (Ext.refl _ _) s (Same.refl _))
  | scope x ih =>
    intro hc
    simp only [codeOK] at hc
    obtain ⟨x1, x2⟩ := ih hc
    refine ⟨fun st ex st' he F m a w s Q hq => ?_, fun l st rest h => by simp [findLabel] at h⟩
    simp only [exec] at he
    exact wp_scope_hops nl (runs_scope (fun g st rest hl => x2 g st rest hl) nl st _ ex st' he x (x1 st) F m a w s Q hq)
  | rangeFunc g ps x y =>
    intro hc
    refine ⟨fun st ex st' he => by simp [exec] at he, fun l st rest h => by simp [findLabel] at h⟩
  | refuse why =>
    intro hc
    refine ⟨fun st ex st' he => by simp [exec] at he, fun l st rest h => by simp [findLabel] at h⟩
end

end Go.AM
