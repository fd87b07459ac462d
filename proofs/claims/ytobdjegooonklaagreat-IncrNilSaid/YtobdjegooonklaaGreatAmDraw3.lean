/- Regions whose order is drawn, third part: every order. Conditions: none. -/
import Derived.Test.YtobdjegooonklaaGreatAmDraw2
set_option linter.unusedVariables false
set_option linter.unusedSimpArgs false
namespace Go.AM
open Go

variable {F : Fz} {m : Mp} {fr : FR} {a : Act} {h : Heap} {w : World} {P : Program}

def core (st : St) : Heap × List Nat × List Nat := (st.h, st.ds, st.ls)

theorem putF_get {nt : Nat} {fr fr' : FR} {dst : Option Tmp} {y : AV} (hp : putF nt fr dst y = some fr') (t : Nat) : get fr' t = if dst = some t then some y else get fr t := by
  cases dst with
  | none =>
    simp only [putF, Option.some.injEq] at hp
    subst hp
    simp
  | some d =>
    simp only [putF] at hp
    cases hb : Nat.blt d nt with
    | false => simp [hb] at hp
    | true =>
      simp only [hb, cond_true, Option.some.injEq] at hp
      subst hp
      simp only [get]
      by_cases hd : d = t
      · subst hd; simp
      · have : Nat.beq d t = false := by
          cases hn : Nat.beq d t with
          | false => rfl
          | true => exact (hd (Nat.eq_of_beq_eq_true hn)).elim
        simp [this, hd]

theorem putF_other {nt : Nat} {fr fr2 fr' : FR} {dst : Option Tmp} {y : AV} (hp : putF nt fr dst y = some fr') : ∃ fr2', putF nt fr2 dst y = some fr2' := by
  cases dst with
  | none => exact ⟨fr2, rfl⟩
  | some d =>
    simp only [putF] at hp ⊢
    cases hb : Nat.blt d nt with
    | false => simp [hb] at hp
    | true => exact ⟨_, rfl⟩

theorem wantedE_congr {ops : Array Oper} {o : Oper} {fr fr2 : FR} (hl : ∀ t ∈ o.looksAt ops, get fr2 t = get fr t) : wantedE ops fr2 o = wantedE ops fr o := by
  unfold wantedE
  split
  · rfl
  · rename_i j want hg
    split
    · rename_i d hd
      rw [hl d (by simp [Oper.looksAt, hg, hd])]
    · rfl

theorem agree_of_looks {ops : Array Oper} {o : Oper} {fr fr2 : FR} (hl : ∀ t ∈ o.looksAt ops, get fr2 t = get fr t) : Agree o.op.operands fr fr2 := by
  intro x hx
  cases x with
  | tmp t => exact hl t (List.mem_append_left _ (List.mem_filterMap.2 ⟨.tmp t, by simpa using hx, rfl⟩))
  | _ => rfl

section
variable {E : Env} {K : CallK} {f : FuncId} {nt n0 : Nat} {ops : Array Oper} {o : Oper} {st st' st2 : St} {c : Cl}

theorem stepO_get (hs : stepO E K f nt n0 ops o st = some (st', c)) (t : Nat) (ht : o.dst ≠ some t) : get st'.fr t = get st.fr t := by
  unfold stepO at hs
  split at hs
  · split at hs
    · rename_i fr' hp
      simp only [Option.some.injEq, Prod.mk.injEq] at hs
      obtain ⟨rfl, rfl⟩ := hs
      rw [putF_get hp]
      simp [ht]
    · cases hs
  · split at hs
    · split at hs
      · rename_i fr' hp
        simp only [Option.some.injEq, Prod.mk.injEq] at hs
        obtain ⟨rfl, rfl⟩ := hs
        rw [putF_get hp]
        simp [ht]
      · cases hs
    · cases hs
  · cases hs

theorem stepO_calm (hQ : QuietK K) (hs : stepO E K f nt n0 ops o st = some (st', c)) : (noisy c = false → core st' = core st) ∧ ∀ id, c = .st id → ∀ j, j ≠ id → st'.h[j]? = st.h[j]? := by
  unfold stepO at hs
  split at hs
  · split at hs
    · simp only [Option.some.injEq, Prod.mk.injEq] at hs
      obtain ⟨rfl, rfl⟩ := hs
      exact ⟨fun _ => rfl, fun id hc => by cases hc⟩
    · cases hs
  · split at hs
    · rename_i x hx
      have cm := coreO_calm hQ hx
      split at hs
      · simp only [Option.some.injEq, Prod.mk.injEq] at hs
        obtain ⟨rfl, rfl⟩ := hs
        refine ⟨fun hc => ?_, cm.st⟩
        obtain ⟨e1, e2, e3⟩ := cm.quiet hc
        simp [core, e1, e2, e3, mergeLt]
      · cases hs
    · cases hs
  · cases hs

theorem stepO_free (hQ : QuietK K) (hs : stepO E K f nt n0 ops o st = some (st', c)) (hl : ∀ t ∈ o.looksAt ops, get st2.fr t = get st.fr t) (hh : HeapSame c st.h st2.h) (hn : noisy c = true → core st2 = core st) :
    ∃ st3, stepO E K f nt n0 ops o st2 = some (st3, c) ∧ (∀ t, get st3.fr t = if o.dst = some t then get st'.fr t else get st2.fr t) ∧ core st3 = if noisy c = true then core st' else core st2 := by
  unfold stepO at hs ⊢
  rw [wantedE_congr hl]
  split at hs
  · rename_i hw
    split at hs
    · rename_i fr' hp
      simp only [Option.some.injEq, Prod.mk.injEq] at hs
      obtain ⟨rfl, rfl⟩ := hs
      obtain ⟨fr2', hp2⟩ := putF_other (fr2 := st2.fr) hp
      simp only [hp2]
      refine ⟨_, rfl, fun t => ?_, by simp [core, noisy]⟩
      rw [putF_get hp2, putF_get hp]
      split <;> rfl
    · cases hs
  · rename_i hw
    split at hs
    · rename_i x hx
      have cm := coreO_calm hQ hx
      split at hs
      · rename_i fr' hp
        simp only [Option.some.injEq, Prod.mk.injEq] at hs
        obtain ⟨rfl, rfl⟩ := hs
        obtain ⟨fr2', hp2⟩ := putF_other (fr2 := st2.fr) hp
        have hg : ∀ t, get fr2' t = if o.dst = some t then get fr' t else get st2.fr t := fun t => by
          rw [putF_get hp2, putF_get hp]
          split <;> rfl
        have ha := coreO_congr E K f st2.h o (agree_of_looks hl)
        cases hc : noisy x.c with
        | false =>
          rw [ha, coreO_free hQ hx hc hh]
          simp only [hp2]
          obtain ⟨e1, e2, e3⟩ := cm.quiet hc
          exact ⟨_, rfl, hg, by simp [core, e2, e3, mergeLt]⟩
        | true =>
          have e := hn hc
          simp only [core, Prod.mk.injEq] at e
          rw [ha, e.1, hx]
          simp only [hp2]
          exact ⟨_, rfl, hg, by simp [core, e.2]⟩
      · cases hs
    · cases hs
  · cases hs

/-! ### The classes -/
theorem outOf_c {y : AV} {h' : Heap} {s : Option (Nat × Bool)} {c : Cl} {x : Out} (e : outOf y h' s c = x) : x.c = c := by
  subst e
  cases s <;> rfl

def Rd (r : OpRes) : Prop := ∀ y h' s c, r = some (y, h', s, c) → c = .pure ∨ ∃ i, c = .rd i
theorem rd_none : Rd none := fun _ _ _ _ e => by cases e
theorem rd_p {y : AV} {h' : Heap} {s : Option (Nat × Bool)} : Rd (some (y, h', s, .pure)) := fun _ _ _ _ e => by
  simp only [Option.some.injEq, Prod.mk.injEq] at e
  exact .inl e.2.2.2.symm
theorem rd_r {y : AV} {h' : Heap} {s : Option (Nat × Bool)} {i : Option Nat} : Rd (some (y, h', s, .rd i)) := fun _ _ _ _ e => by
  simp only [Option.some.injEq, Prod.mk.injEq] at e
  exact .inr ⟨i, e.2.2.2.symm⟩
theorem rd_cond {b : Bool} {r r' : OpRes} (h1 : Rd r) (h2 : Rd r') : Rd (bif b then r else r') := by
  cases b
  · exact h2
  · exact h1

theorem builtinE_rd {E : Env} {b : Builtin} {ts : Array TypeId} {ty : TypeId} {args : List AV} (hb : b = .len ∨ b = .cap ∨ b = .min ∨ b = .max ∨ b = .real ∨ b = .imag ∨ b = .complex) : Rd (builtinE E h b ts ty args) := by
  rcases hb with rfl | rfl | rfl | rfl | rfl | rfl | rfl <;> unfold builtinE <;> dsimp only <;> (try unfold lenE capE) <;>
    repeat' (first | exact rd_none | exact rd_p | exact rd_r | apply rd_cond | contradiction | split)

theorem stat0 (hs : stepO E K f nt n0 ops o st = some (st', c)) (h0 : stat o = 0) : c = .skip ∨ c = .pure := by
  unfold stepO at hs
  split at hs
  · split at hs
    · simp only [Option.some.injEq, Prod.mk.injEq] at hs
      exact .inl hs.2.symm
    · cases hs
  · split at hs
    · rename_i x hx
      split at hs
      · simp only [Option.some.injEq, Prod.mk.injEq] at hs
        obtain ⟨_, rfl⟩ := hs
        right
        obtain ⟨dst, op, type, pos, after, guard⟩ := o
        cases op <;> simp only [stat] at h0 <;> try (exact absurd h0 (by decide))
        case call c =>
          split at h0
          · split at h0 <;> exact absurd h0 (by decide)
          · exact absurd h0 (by decide)
        all_goals
          simp only [coreO, clsOf] at hx
          split at hx
          · injection hx with hx
            exact outOf_c hx
          · cases hx
      · cases hs
    · cases hs
  · cases hs

theorem stat1 (hs : stepO E K f nt n0 ops o st = some (st', c)) (h0 : stat o = 1) : c = .skip ∨ c = .pure ∨ ∃ i, c = .rd i := by
  unfold stepO at hs
  split at hs
  · split at hs
    · simp only [Option.some.injEq, Prod.mk.injEq] at hs
      exact .inl hs.2.symm
    · cases hs
  · split at hs
    · rename_i x hx
      split at hs
      · simp only [Option.some.injEq, Prod.mk.injEq] at hs
        obtain ⟨_, rfl⟩ := hs
        right
        obtain ⟨dst, op, type, pos, after, guard⟩ := o
        cases op <;> simp only [stat] at h0 <;> try (exact absurd h0 (by decide))
        case call c =>
          split at h0
          · rename_i b hb
            simp only [coreO, hb] at hx
            split at hx
            · split at hx
              · rename_i y h' s cl hbu
                injection hx with hx
                rw [outOf_c hx]
                refine builtinE_rd ?_ _ _ _ _ hbu
                split at h0
                all_goals first | (exact absurd h0 (by decide)) | simp
              · cases hx
            · cases hx
          · exact absurd h0 (by decide)
        case lookup t m k ok =>
          simp only [coreO] at hx
          split at hx
          · split at hx
            · injection hx with hx
              rw [outOf_c hx]
              split
              · exact .inr ⟨_, rfl⟩
              · exact .inl rfl
            · cases hx
          · cases hx
        all_goals
          simp only [coreO, clsOf] at hx
          split at hx
          · injection hx with hx
            rw [outOf_c hx]
            split
            all_goals first | exact .inl rfl | exact .inr ⟨_, rfl⟩
          · cases hx
      · cases hs
    · cases hs
  · cases hs

theorem compat_symm (a b : Cl) : compat a b = compat b a := by
  cases a <;> cases b <;> (try rfl) <;> (rename_i x y; first | (cases x <;> rfl) | (cases y <;> rfl))

theorem compat_of {c d : Cl} (h : (c = .skip ∨ c = .pure) ∨ (d = .skip ∨ d = .pure) ∨ ((c = .skip ∨ c = .pure ∨ ∃ i, c = .rd i) ∧ (d = .skip ∨ d = .pure ∨ ∃ i, d = .rd i))) : compat c d = true := by
  rcases h with (rfl | rfl) | (rfl | rfl) | ⟨rfl | rfl | ⟨i, rfl⟩, rfl | rfl | ⟨j, rfl⟩⟩ <;> (try rfl) <;> (try (cases c <;> rfl)) <;> (try (cases d <;> rfl))
end

/-! ### The run in the text's order -/
structure Trace (E : Env) (K : CallK) (f : FuncId) (nt n0 : Nat) (ops : Array Oper) (T : Nat → St) (C : Nat → Cl) : Prop where
  step : ∀ i o, ops[i]? = some o → stepO E K f nt n0 ops o (T i) = some (T (i + 1), C i)

theorem runOps_trace {E : Env} {K : CallK} {f : FuncId} {nt n0 : Nat} {ops : Array Oper} {st' : St} {cs' : List Cl} : ∀ (os : List Oper) (st : St) (cs : List Cl), runOps E K f nt n0 ops os st cs = some (st', cs') →
    ∃ (T : Nat → St) (C : Nat → Cl) (l : List Cl), T 0 = st ∧ T os.length = st' ∧ (∀ i o, os[i]? = some o → stepO E K f nt n0 ops o (T i) = some (T (i + 1), C i)) ∧ cs' = l.reverse ++ cs ∧ l.length = os.length ∧ ∀ i, i < os.length → l[i]? = some (C i)
  | [], st, cs, h => by
    simp only [runOps, Option.some.injEq, Prod.mk.injEq] at h
    obtain ⟨rfl, rfl⟩ := h
    exact ⟨fun _ => st, fun _ => .skip, [], rfl, rfl, fun i o h => by simp at h, rfl, rfl, fun i h => by simp at h⟩
  | o :: os, st, cs, h => by
    simp only [runOps] at h
    split at h
    · rename_i st1 c hs
      obtain ⟨T, C, l, h1, h2, h3, h4, h5, h6⟩ := runOps_trace os st1 (c :: cs) h
      refine ⟨fun | 0 => st | i + 1 => T i, fun | 0 => c | i + 1 => C i, c :: l, rfl, h2, ?_, by simp [h4], by simp [h5], ?_⟩
      · intro i o' ho
        cases i with
        | zero =>
          simp only [List.getElem?_cons_zero, Option.some.injEq] at ho
          subst ho
          rw [hs, ← h1]
        | succ i => exact h3 i o' (by simpa using ho)
      · intro i hi
        cases i with
        | zero => rfl
        | succ i => simpa using h6 i (by simpa using hi)
    · cases h

theorem pairsOK_spec {cs : List Cl} {i j : Nat} {a b : Cl} : ∀ (l : List (Nat × Nat)), pairsOK cs l = true → hasPair i j l = true → cs[cs.length - 1 - i]? = some a → cs[cs.length - 1 - j]? = some b → compat a b = true
  | [], _, h, _, _ => by simp [hasPair] at h
  | (x, y) :: l, h, hp, ha, hb => by
    simp only [pairsOK, Bool.and_eq_true] at h
    simp only [hasPair, Bool.or_eq_true, Bool.and_eq_true] at hp
    rcases hp with ⟨h1, h2⟩ | hp
    · have e1 := Nat.eq_of_beq_eq_true h1
      have e2 := Nat.eq_of_beq_eq_true h2
      subst e1; subst e2
      have := h.1
      rw [ha, hb] at this
      exact this
    · exact pairsOK_spec l h.2 hp ha hb

end Go.AM
