/- Regions whose order is drawn, third part: every order. Conditions: none. -/
import Derived.Test.YtobdjegooonklaaGreatAmDraw
set_option linter.unusedVariables false
set_option linter.unusedSimpArgs false
namespace Go.AM
open Go

variable {F : Fz} {m : Mp} {fr : FR} {a : Act} {h : Heap} {w : World} {P : Program}

def core (st : St) : Heap × List Nat × List Nat := (st.h, st.ds, st.ls)

theorem putF_get {nt : Nat} {fr fr' : FR} {dst : Option Tmp} {y : AV} (hp : putF nt fr dst y = some fr') (t : Nat) : get fr' t = if dst = some t then some y else get fr t := by
  cases dst with
  | none =>
    simp only [putF, Option.some.injEq] at hp
    subst hp
    simp
  | some d =>
    simp only [putF] at hp
    cases hb : Nat.blt d nt with
    | false => simp [hb] at hp
    | true =>
      simp only [hb, cond_true, Option.some.injEq] at hp
      subst hp
      simp only [get]
      by_cases hd : d = t
      · subst hd; simp
      · have : Nat.beq d t = false := by
          cases hn : Nat.beq d t with
          | false => rfl
          | true => exact (hd (Nat.eq_of_beq_eq_true hn)).elim
        simp [this, hd]

theorem putF_other {nt : Nat} {fr fr2 fr' : FR} {dst : Option Tmp} {y : AV} (hp : putF nt fr dst y = some fr') : ∃ fr2', putF nt fr2 dst y = some fr2' := by
  cases dst with
  | none => exact ⟨fr2, rfl⟩
  | some d =>
    simp only [putF] at hp ⊢
    cases hb : Nat.blt d nt with
    | false => simp [hb] at hp
    | true => exact ⟨_, rfl⟩

theorem wantedE_congr {ops : Array Oper} {o : Oper} {fr fr2 : FR} (hl : ∀ t ∈ o.looksAt ops, get fr2 t = get fr t) : wantedE ops fr2 o = wantedE ops fr o := by
  unfold wantedE
  split
  · rfl
  · rename_i j want hg
    split
    · rename_i d hd
      rw [hl d (by simp [Oper.looksAt, hg, hd])]
    · rfl

theorem agree_of_looks {ops : Array Oper} {o : Oper} {fr fr2 : FR} (hl : ∀ t ∈ o.looksAt ops, get fr2 t = get fr t) : Agree o.op.operands fr fr2 := by
  intro x hx
  cases x with
  | tmp t => exact hl t (List.mem_append_left _ (List.mem_filterMap.2 ⟨.tmp t, by simpa using hx, rfl⟩))
  | _ => rfl

section
variable {E : Env} {K : CallK} {f : FuncId} {nt n0 : Nat} {ops : Array Oper} {o : Oper} {st st' st2 : St} {c : Cl}

theorem stepO_get (hs : stepO E K f nt n0 ops o st = some (st', c)) (t : Nat) (ht : o.dst ≠ some t) : get st'.fr t = get st.fr t := by
  unfold stepO at hs
  split at hs
  · split at hs
    · rename_i fr' hp
      simp only [Option.some.injEq, Prod.mk.injEq] at hs
      obtain ⟨rfl, rfl⟩ := hs
      rw [putF_get hp]
      simp [ht]
    · cases hs
  · split at hs
    · split at hs
      · rename_i fr' hp
        simp only [Option.some.injEq, Prod.mk.injEq] at hs
        obtain ⟨rfl, rfl⟩ := hs
        rw [putF_get hp]
        simp [ht]
      · cases hs
    · cases hs
  · cases hs

theorem stepO_calm (hQ : QuietK K) (hs : stepO E K f nt n0 ops o st = some (st', c)) : (noisy c = false → core st' = core st) ∧ ∀ id, c = .st id → ∀ j, j ≠ id → st'.h[j]? = st.h[j]? := by
  unfold stepO at hs
  split at hs
  · split at hs
    · simp only [Option.some.injEq, Prod.mk.injEq] at hs
      obtain ⟨rfl, rfl⟩ := hs
      exact ⟨fun _ => rfl, fun id hc => by cases hc⟩
    · cases hs
  · split at hs
    · rename_i x hx
      have cm := coreO_calm hQ hx
      split at hs
      · simp only [Option.some.injEq, Prod.mk.injEq] at hs
        obtain ⟨rfl, rfl⟩ := hs
        refine ⟨fun hc => ?_, cm.st⟩
        obtain ⟨e1, e2, e3⟩ := cm.quiet hc
        simp [core, e1, e2, e3, mergeLt]
      · cases hs
    · cases hs
  · cases hs

theorem stepO_free (hQ : QuietK K) (hs : stepO E K f nt n0 ops o st = some (st', c)) (hl : ∀ t ∈ o.looksAt ops, get st2.fr t = get st.fr t) (hh : HeapSame c st.h st2.h) (hn : noisy c = true → core st2 = core st) :
    ∃ st3, stepO E K f nt n0 ops o st2 = some (st3, c) ∧ (∀ t, get st3.fr t = if o.dst = some t then get st'.fr t else get st2.fr t) ∧ core st3 = if noisy c = true then core st' else core st2 := by
  unfold stepO at hs ⊢
  rw [wantedE_congr hl]
  split at hs
  · rename_i hw
    split at hs
    · rename_i fr' hp
      simp only [Option.some.injEq, Prod.mk.injEq] at hs
      obtain ⟨rfl, rfl⟩ := hs
      obtain ⟨fr2', hp2⟩ := putF_other (fr2 := st2.fr) hp
      simp only [hp2]
      refine ⟨_, rfl, fun t => ?_, by simp [core, noisy]⟩
      rw [putF_get hp2, putF_get hp]
      split <;> rfl
    · cases hs
  · rename_i hw
    split at hs
    · rename_i x hx
      have cm := coreO_calm hQ hx
      split at hs
      · rename_i fr' hp
        simp only [Option.some.injEq, Prod.mk.injEq] at hs
        obtain ⟨rfl, rfl⟩ := hs
        obtain ⟨fr2', hp2⟩ := putF_other (fr2 := st2.fr) hp
        have hg : ∀ t, get fr2' t = if o.dst = some t then get fr' t else get st2.fr t := fun t => by
          rw [putF_get hp2, putF_get hp]
          split <;> rfl
        have ha := coreO_congr E K f st2.h o (agree_of_looks hl)
        cases hc : noisy x.c with
        | false =>
          rw [ha, coreO_free hQ hx hc hh]
          simp only [hp2]
          obtain ⟨e1, e2, e3⟩ := cm.quiet hc
          exact ⟨_, rfl, hg, by simp [core, e2, e3, mergeLt]⟩
        | true =>
          have e := hn hc
          simp only [core, Prod.mk.injEq] at e
          rw [ha, e.1, hx]
          simp only [hp2]
          exact ⟨_, rfl, hg, by simp [core, e.2]⟩
      · cases hs
    · cases hs
  · cases hs

/-! ### The classes -/
theorem outOf_c {y : AV} {h' : Heap} {s : Option (Nat × Bool)} {c : Cl} {x : Out} (e : outOf y h' s c = x) : x.c = c := by
  subst e
  cases s <;> rfl

def Rd (r : OpRes) : Prop := ∀ y h' s c, r = some (y, h', s, c) → c = .pure ∨ ∃ i, c = .rd i
theorem rd_none : Rd none := fun _ _ _ _ e => by cases e
theorem rd_p {y : AV} {h' : Heap} {s : Option (Nat × Bool)} : Rd (some (y, h', s, .pure)) := fun _ _ _ _ e => by
  simp only [Option.some.injEq, Prod.mk.injEq] at e
  exact .inl e.2.2.2.symm
theorem rd_r {y : AV} {h' : Heap} {s : Option (Nat × Bool)} {i : Option Nat} : Rd (some (y, h', s, .rd i)) := fun _ _ _ _ e => by
  simp only [Option.some.injEq, Prod.mk.injEq] at e
  exact .inr ⟨i, e.2.2.2.symm⟩
theorem rd_cond {b : Bool} {r r' : OpRes} (h1 : Rd r) (h2 : Rd r') : Rd (bif b then r else r') := by
  cases b
  · exact h2
  · exact h1

theorem builtinE_rd {E : Env} {b : Builtin} {ts : Array TypeId} {ty : TypeId} {args : List AV} (hb : b = .len ∨ b = .cap ∨ b = .min ∨ b = .max ∨ b = .real ∨ b = .imag ∨ b = .complex) : Rd (builtinE E h b ts ty args) := by
  rcases hb with rfl | rfl | rfl | rfl | rfl | rfl | rfl <;> unfold builtinE <;> dsimp only <;> (try unfold lenE capE) <;>
    repeat' (first | exact rd_none | exact rd_p | exact rd_r | apply rd_cond | contradiction | split)

theorem stat0 (hs : stepO E K f nt n0 ops o st = some (st', c)) (h0 : stat o = 0) : c = .skip ∨ c = .pure := by
  unfold stepO at hs
  split at hs
  · split at hs
    · simp only [Option.some.injEq, Prod.mk.injEq] at hs
      exact .inl hs.2.symm
    · cases hs
  · split at hs
    · rename_i x hx
      split at hs
      · simp only [Option.some.injEq, Prod.mk.injEq] at hs
        obtain ⟨_, rfl⟩ := hs
        right
        obtain ⟨dst, op, type, pos, after, guard⟩ := o
        cases op <;> simp only [stat] at h0 <;> try (exact absurd h0 (by decide))
        case call c =>
          split at h0
          · split at h0 <;> exact absurd h0 (by decide)
          · exact absurd h0 (by decide)
        all_goals
          simp only [coreO, clsOf] at hx
          split at hx
          · injection hx with hx
            exact outOf_c hx
          · cases hx
      · cases hs
    · cases hs
  · cases hs

theorem stat1 (hs : stepO E K f nt n0 ops o st = some (st', c)) (h0 : stat o = 1) : c = .skip ∨ c = .pure ∨ ∃ i, c = .rd i := by
  unfold stepO at hs
  split at hs
  · split at hs
    · simp only [Option.some.injEq, Prod.mk.injEq] at hs
      exact .inl hs.2.symm
    · cases hs
  · split at hs
    · rename_i x hx
      split at hs
      · simp only [Option.some.injEq, Prod.mk.injEq] at hs
        obtain ⟨_, rfl⟩ := hs
        right
        obtain ⟨dst, op, type, pos, after, guard⟩ := o
        cases op <;> simp only [stat] at h0 <;> try (exact absurd h0 (by decide))
        case call c =>
          split at h0
          · rename_i b hb
            simp only [coreO, hb] at hx
            split at hx
            · split at hx
              · rename_i y h' s cl hbu
                injection hx with hx
                rw [outOf_c hx]
                refine builtinE_rd ?_ _ _ _ _ hbu
                split at h0
                all_goals first | (exact absurd h0 (by decide)) | simp
              · cases hx
            · cases hx
          · exact absurd h0 (by decide)
        case lookup t m k ok =>
          simp only [coreO] at hx
          split at hx
          · split at hx
            · injection hx with hx
              rw [outOf_c hx]
              split
              · exact .inr ⟨_, rfl⟩
              · exact .inl rfl
            · cases hx
          · cases hx
        all_goals
          simp only [coreO, clsOf] at hx
          split at hx
          · injection hx with hx
            rw [outOf_c hx]
            split
            all_goals first | exact .inl rfl | exact .inr ⟨_, rfl⟩
          · cases hx
      · cases hs
    · cases hs
  · cases hs

theorem compat_symm (a b : Cl) : compat a b = compat b a := by
  cases a <;> cases b <;> (try rfl) <;> (rename_i x y; first | (cases x <;> rfl) | (cases y <;> rfl))

theorem compat_of {c d : Cl} (h : (c = .skip ∨ c = .pure) ∨ (d = .skip ∨ d = .pure) ∨ ((c = .skip ∨ c = .pure ∨ ∃ i, c = .rd i) ∧ (d = .skip ∨ d = .pure ∨ ∃ i, d = .rd i))) : compat c d = true := by
  rcases h with (rfl | rfl) | (rfl | rfl) | ⟨rfl | rfl | ⟨i, rfl⟩, rfl | rfl | ⟨j, rfl⟩⟩ <;> (try rfl) <;> (try (cases c <;> rfl)) <;> (try (cases d <;> rfl))
end

/-! ### The run in the text's order -/
structure Trace (E : Env) (K : CallK) (f : FuncId) (nt n0 : Nat) (ops : Array Oper) (T : Nat → St) (C : Nat → Cl) : Prop where
  step : ∀ i o, ops[i]? = some o → stepO E K f nt n0 ops o (T i) = some (T (i + 1), C i)

theorem runOps_trace {E : Env} {K : CallK} {f : FuncId} {nt n0 : Nat} {ops : Array Oper} {st' : St} {cs' : List Cl} : ∀ (os : List Oper) (st : St) (cs : List Cl), runOps E K f nt n0 ops os st cs = some (st', cs') →
    ∃ (T : Nat → St) (C : Nat → Cl) (l : List Cl), T 0 = st ∧ T os.length = st' ∧ (∀ i o, os[i]? = some o → stepO E K f nt n0 ops o (T i) = some (T (i + 1), C i)) ∧ cs' = l.reverse ++ cs ∧ l.length = os.length ∧ ∀ i, i < os.length → l[i]? = some (C i)
  | [], st, cs, h => by
    simp only [runOps, Option.some.injEq, Prod.mk.injEq] at h
    obtain ⟨rfl, rfl⟩ := h
    exact ⟨fun _ => st, fun _ => .skip, [], rfl, rfl, fun i o h => by simp at h, rfl, rfl, fun i h => by simp at h⟩
  | o :: os, st, cs, h => by
    simp only [runOps] at h
    split at h
    · rename_i st1 c hs
      obtain ⟨T, C, l, h1, h2, h3, h4, h5, h6⟩ := runOps_trace os st1 (c :: cs) h
      refine ⟨fun | 0 => st | i + 1 => T i, fun | 0 => c | i + 1 => C i, c :: l, rfl, h2, ?_, by simp [h4], by simp [h5], ?_⟩
      · intro i o' ho
        cases i with
        | zero =>
          simp only [List.getElem?_cons_zero, Option.some.injEq] at ho
          subst ho
          rw [hs, ← h1]
        | succ i => exact h3 i o' (by simpa using ho)
      · intro i hi
        cases i with
        | zero => rfl
        | succ i => simpa using h6 i (by simpa using hi)
    · cases h

theorem pairsOK_spec {cs : List Cl} {i j : Nat} {a b : Cl} : ∀ (l : List (Nat × Nat)), pairsOK cs l = true → hasPair i j l = true → cs[cs.length - 1 - i]? = some a → cs[cs.length - 1 - j]? = some b → compat a b = true
  | [], _, h, _, _ => by simp [hasPair] at h
  | (x, y) :: l, h, hp, ha, hb => by
    simp only [pairsOK, Bool.and_eq_true] at h
    simp only [hasPair, Bool.or_eq_true, Bool.and_eq_true] at hp
    rcases hp with ⟨h1, h2⟩ | hp
    · have e1 := Nat.eq_of_beq_eq_true h1
      have e2 := Nat.eq_of_beq_eq_true h2
      subst e1; subst e2
      have := h.1
      rw [ha, hb] at this
      exact this
    · exact pairsOK_spec l h.2 hp ha hb

end Go.AM

set_option linter.unusedVariables false
set_option linter.unusedSimpArgs false
namespace Go.AM
open Go

variable {F : Fz} {m : Mp} {fr : FR} {a : Act} {h : Heap} {w : World} {P : Program}

def cnt (S : Nat → Bool) : Nat → Nat
  | 0 => 0
  | k + 1 => cnt S k + (bif S k then 0 else 1)

theorem cnt_eq {S S' : Nat → Bool} {i : Nat} (hs : ∀ j, j ≠ i → S' j = S j) : ∀ n, n ≤ i → cnt S' n = cnt S n
  | 0, _ => rfl
  | n + 1, h => by simp only [cnt]; rw [cnt_eq hs n (by omega), hs n (by omega)]

theorem cnt_set {S S' : Nat → Bool} {i : Nat} (h0 : S i = false) (h1 : S' i = true) (hs : ∀ j, j ≠ i → S' j = S j) : ∀ n, i < n → cnt S' n + 1 = cnt S n
  | 0, h => by omega
  | n + 1, h => by
    simp only [cnt]
    by_cases e : n = i
    · subst e
      rw [cnt_eq hs n (Nat.le_refl _), h0, h1]
      simp
    · have := cnt_set h0 h1 hs n (by omega)
      rw [hs n e]
      omega

theorem cnt_zero {S : Nat → Bool} : ∀ n, cnt S n = 0 → ∀ j, j < n → S j = true
  | 0, _, j, hj => by omega
  | n + 1, h, j, hj => by
    simp only [cnt] at h
    have h2 : S n = true := by cases hn : S n <;> simp [hn] at h ⊢
    rcases Nat.lt_or_ge j n with hj' | hj'
    · exact cnt_zero n (by omega) j hj'
    · have : j = n := by omega
      subst this; exact h2

section
variable {E : Env} {K : CallK} {f : FuncId} {nt n0 : Nat} {ops : Array Oper} {T : Nat → St} {C : Nat → Cl} {S S' : Nat → Bool} {st2 : St} {t : Nat}

def valS (ops : Array Oper) (T : Nat → St) (S : Nat → Bool) (t : Nat) : Nat → Option AV
  | 0 => get (T 0).fr t
  | i + 1 => bif S i && ((ops[i]?).bind (·.dst) == some t) then get (T (i + 1)).fr t else valS ops T S t i

theorem valS_text (tr : Trace E K f nt n0 ops T C) : ∀ i, i ≤ ops.size → (∀ j, j < i → (ops[j]?).bind (·.dst) = some t → S j = true) → valS ops T S t i = get (T i).fr t
  | 0, _, _ => rfl
  | i + 1, hi, h => by
    simp only [valS]
    have ho : ops[i]? = some ops[i] := Array.getElem?_eq_getElem (by omega)
    cases hd : ((ops[i]?).bind (·.dst) == some t) with
    | true =>
      rw [h i (by omega) (by simpa using hd)]
      rfl
    | false =>
      rw [Bool.and_false, cond_false, valS_text tr i (by omega) fun j hj => h j (by omega)]
      refine (stepO_get (tr.step i _ ho) t ?_).symm
      intro e
      rw [ho] at hd
      simp [e] at hd

theorem valS_skip : ∀ k i, (∀ j, i ≤ j → j < i + k → S j = true → (ops[j]?).bind (·.dst) ≠ some t) → valS ops T S t (i + k) = valS ops T S t i
  | 0, i, _ => rfl
  | k + 1, i, h => by
    rw [← Nat.add_assoc]
    simp only [valS]
    have : (S (i + k) && ((ops[i + k]?).bind (·.dst) == some t)) = false := by
      cases hS : S (i + k) with
      | false => rfl
      | true =>
        have := h (i + k) (by omega) (by omega) hS
        simpa using this
    rw [this, cond_false]
    exact valS_skip k i fun j h1 h2 => h j h1 (by omega)

theorem valS_skip' {i n : Nat} (hin : i ≤ n) (h : ∀ j, i ≤ j → j < n → S j = true → (ops[j]?).bind (·.dst) ≠ some t) : valS ops T S t n = valS ops T S t i := by
  have := valS_skip (ops := ops) (T := T) (S := S) (t := t) (n - i) i fun j h1 h2 => h j h1 (by omega)
  rwa [show i + (n - i) = n by omega] at this

theorem valS_congr : ∀ i, (∀ j, j < i → (ops[j]?).bind (·.dst) = some t → S' j = S j) → valS ops T S' t i = valS ops T S t i
  | 0, _ => rfl
  | i + 1, h => by
    simp only [valS]
    rw [valS_congr i fun j hj => h j (by omega)]
    cases hd : ((ops[i]?).bind (·.dst) == some t) with
    | true => rw [h i (by omega) (by simpa using hd)]
    | false => simp

theorem chain_core (hQ : QuietK K) (tr : Trace E K f nt n0 ops T C) : ∀ k i, i + k ≤ ops.size → (∀ j, i ≤ j → j < i + k → noisy (C j) = false) → core (T (i + k)) = core (T i)
  | 0, i, _, _ => rfl
  | k + 1, i, hk, h => by
    have ho : ops[i + k]? = some ops[i + k] := Array.getElem?_eq_getElem (by omega)
    rw [← Nat.add_assoc, (stepO_calm hQ (tr.step _ _ ho)).1 (h _ (by omega) (by omega))]
    exact chain_core hQ tr k i (by omega) fun j h1 h2 => h j h1 (by omega)

theorem chain_row (hQ : QuietK K) (tr : Trace E K f nt n0 ops T C) {id : Nat} : ∀ k i, i + k ≤ ops.size → (∀ j, i ≤ j → j < i + k → noisy (C j) = true → ∃ q, C j = .st q ∧ id ≠ q) → (T (i + k)).h[id]? = (T i).h[id]?
  | 0, i, _, _ => rfl
  | k + 1, i, hk, h => by
    have ho : ops[i + k]? = some ops[i + k] := Array.getElem?_eq_getElem (by omega)
    have hst : (T (i + k + 1)).h[id]? = (T (i + k)).h[id]? := by
      cases hn : noisy (C (i + k)) with
      | false =>
        have := (stepO_calm hQ (tr.step _ _ ho)).1 hn
        simp only [core, Prod.mk.injEq] at this
        rw [this.1]
      | true =>
        obtain ⟨q, q1, q2⟩ := h _ (by omega) (by omega) hn
        exact (stepO_calm hQ (tr.step _ _ ho)).2 q q1 id q2
    rw [← Nat.add_assoc, hst]
    exact chain_row hQ tr k i (by omega) fun j h1 h2 => h j h1 (by omega)

structure DInv (ops : Array Oper) (T : Nat → St) (C : Nat → Cl) (S : Nat → Bool) (st2 : St) : Prop where
  val : ∀ t, get st2.fr t = valS ops T S t ops.size
  mem : ∃ p, p ≤ ops.size ∧ core st2 = core (T p) ∧ ∀ j, j < ops.size → noisy (C j) = true → (S j = true ↔ j < p)
  closed : Closed ops S

/-- What stands beside an operation that may come next. -/
theorem beside {prs : List (Nat × Nat)} (hd : drawOK ops prs = true) (hc : ∀ i j x y, ops[i]? = some x → ops[j]? = some y → i < j → pairOK ops prs i j x y = true → compat (C i) (C j) = true)
    (cl : Closed ops S) {i : Nat} {o : Oper} (ho : ops[i]? = some o) (h0 : S i = false) (he : ∀ e ∈ edgesOf o, S e = true) {j : Nat} {y : Oper} (hy : ops[j]? = some y) (hj : (j < i ∧ S j = false) ∨ (i < j ∧ S j = true)) :
    compat (C i) (C j) = true ∧ (∀ d, y.dst = some d → d ∉ o.looksAt ops) ∧ (∀ d, o.dst = some d → y.dst ≠ some d) := by
  rcases hj with ⟨hlt, hS⟩ | ⟨hlt, hS⟩
  · rcases (drawOK_spec hd ho).2 j y hy hlt with h | h
    · have hcp := hc j i y o hy ho hlt h
      simp only [pairOK, Bool.and_eq_true] at h
      obtain ⟨g1, g2, g3⟩ := Oper.apart_spec h.1
      exact ⟨by rw [compat_symm]; exact hcp, g1, fun d hd hd' => g2 d hd' hd⟩
    · rw [h S cl he] at hS
      cases hS
  · rcases (drawOK_spec hd hy).2 i o ho hlt with h | h
    · have hcp := hc i j o y ho hy hlt h
      simp only [pairOK, Bool.and_eq_true] at h
      obtain ⟨g1, g2, g3⟩ := Oper.apart_spec h.1
      exact ⟨hcp, g3, g2⟩
    · rw [h S cl (cl j y hy hS)] at h0
      cases h0

theorem compat_loud {c d : Cl} (h : compat c d = true) (hd : noisy d = true) : c = .skip ∨ c = .pure ∨ ∃ i q, c = .rd (some i) ∧ d = .st q ∧ i ≠ q := by
  cases d <;> simp [noisy] at hd
  · rename_i q
    cases c with
    | skip => exact .inl rfl
    | pure => exact .inr (.inl rfl)
    | rd i => cases i with
      | none => simp [compat] at h
      | some i =>
        refine .inr (.inr ⟨i, q, rfl, rfl, fun e => ?_⟩)
        subst e
        simp [compat] at h
    | st => simp [compat] at h
    | quiet => simp [compat] at h
    | w => simp [compat] at h
  · cases c <;> simp [compat] at h ⊢

/-- One operation more. -/
theorem DInv.next (hQ : QuietK K) (tr : Trace E K f nt n0 ops T C) {prs : List (Nat × Nat)} (hd : drawOK ops prs = true)
    (hc : ∀ i j x y, ops[i]? = some x → ops[j]? = some y → i < j → pairOK ops prs i j x y = true → compat (C i) (C j) = true)
    (inv : DInv ops T C S st2) {i : Nat} {o : Oper} (ho : ops[i]? = some o) (h0 : S i = false) (he : ∀ e ∈ edgesOf o, S e = true)
    (h1 : S' i = true) (hs : ∀ j, j ≠ i → S' j = S j) :
    ∃ st3, stepO E K f nt n0 ops o st2 = some (st3, C i) ∧ DInv ops T C S' st3 := by
  have hi : i < ops.size := (Array.getElem?_eq_some_iff.1 ho).1
  have bs : ∀ j, j < ops.size → (j < i ∧ S j = false) ∨ (i < j ∧ S j = true) → compat (C i) (C j) = true ∧ (∀ d, (ops[j]?).bind (·.dst) = some d → d ∉ o.looksAt ops) ∧ (∀ d, o.dst = some d → (ops[j]?).bind (·.dst) ≠ some d) := by
    intro j hj hh
    have hy : ops[j]? = some ops[j] := Array.getElem?_eq_getElem hj
    obtain ⟨g1, g2, g3⟩ := beside hd hc inv.closed ho h0 he hy hh
    rw [hy]
    exact ⟨g1, g2, g3⟩
  -- what it looks at
  have hl : ∀ t ∈ o.looksAt ops, get st2.fr t = get (T i).fr t := by
    intro t ht
    rw [inv.val t, valS_skip' (i := i) (by omega)]
    · refine valS_text tr i (by omega) fun j hj hdj => ?_
      cases hS : S j with
      | true => rfl
      | false => exact ((bs j (by omega) (.inl ⟨hj, hS⟩)).2.1 t hdj ht).elim
    · intro j h1 h2 hS hdj
      rcases Nat.eq_or_lt_of_le h1 with e | hlt
      · subst e; rw [h0] at hS; cases hS
      · exact (bs j h2 (.inr ⟨hlt, hS⟩)).2.1 t hdj ht
  obtain ⟨p, p1, p2, p3⟩ := inv.mem
  -- the noisy ones between
  have btw : ∀ j, j < ops.size → noisy (C j) = true → (p ≤ j ∧ j < i) ∨ (i ≤ j ∧ j < p) → compat (C i) (C j) = true := by
    intro j hj hn hh
    rcases hh with ⟨g1, g2⟩ | ⟨g1, g2⟩
    · refine (bs j hj (.inl ⟨g2, ?_⟩)).1
      cases hS : S j with
      | false => rfl
      | true => have := (p3 j hj hn).1 hS; omega
    · have hS := (p3 j hj hn).2 g2
      refine (bs j hj (.inr ⟨?_, hS⟩)).1
      rcases Nat.eq_or_lt_of_le g1 with e | hlt
      · subst e; rw [h0] at hS; cases hS
      · exact hlt
  have same : (∀ j, j < ops.size → noisy (C j) = true → (p ≤ j ∧ j < i) ∨ (i ≤ j ∧ j < p) → False) → core st2 = core (T i) := by
    intro hno
    have hq : ∀ j, j < ops.size → (p ≤ j ∧ j < i) ∨ (i ≤ j ∧ j < p) → noisy (C j) = false := fun j hj hh => by
      cases hn : noisy (C j) with
      | false => rfl
      | true => exact (hno j hj hn hh).elim
    rw [p2]
    rcases Nat.le_total p i with hpi | hpi
    · have := chain_core hQ tr (i - p) p (by omega) fun j g1 g2 => hq j (by omega) (.inl ⟨g1, by omega⟩)
      rw [show p + (i - p) = i by omega] at this
      exact this.symm
    · have := chain_core hQ tr (p - i) i (by omega) fun j g1 g2 => hq j (by omega) (.inr ⟨g1, by omega⟩)
      rw [show i + (p - i) = p by omega] at this
      exact this
  have hh : HeapSame (C i) (T i).h st2.h := by
    have loud : ¬ (C i = .skip ∨ C i = .pure ∨ ∃ q, C i = .rd (some q)) → core st2 = core (T i) := fun hne => same fun j hj hn hb => by
      rcases compat_loud (btw j hj hn hb) hn with h | h | ⟨q, _, h, _⟩
      · exact hne (.inl h)
      · exact hne (.inr (.inl h))
      · exact hne (.inr (.inr ⟨q, h⟩))
    have heq : core st2 = core (T i) → st2.h = (T i).h := fun e => by simp only [core, Prod.mk.injEq] at e; exact e.1
    unfold HeapSame
    split
    · trivial
    · trivial
    · rename_i q hq
      have hcore : st2.h = (T p).h := by simp only [core, Prod.mk.injEq] at p2; exact p2.1
      rw [hcore]
      have hrow : ∀ j, j < ops.size → noisy (C j) = true → (p ≤ j ∧ j < i) ∨ (i ≤ j ∧ j < p) → ∃ r, C j = .st r ∧ q ≠ r := fun j hj hn hb => by
        rcases compat_loud (btw j hj hn hb) hn with h | h | ⟨q', r, h, h', h''⟩
        · rw [hq] at h; cases h
        · rw [hq] at h; cases h
        · rw [hq] at h
          injection h with h
          injection h with h
          subst h
          exact ⟨r, h', h''⟩
      rcases Nat.le_total p i with hpi | hpi
      · have := chain_row hQ tr (id := q) (i - p) p (by omega) fun j g1 g2 hn => hrow j (by omega) hn (.inl ⟨g1, by omega⟩)
        rw [show p + (i - p) = i by omega] at this
        exact this.symm
      · have := chain_row hQ tr (id := q) (p - i) i (by omega) fun j g1 g2 hn => hrow j (by omega) hn (.inr ⟨g1, by omega⟩)
        rw [show i + (p - i) = p by omega] at this
        exact this
    · rename_i h1 h2 h3
      refine heq (loud ?_)
      rintro (h | h | ⟨q, h⟩)
      · exact h1 h
      · exact h2 h
      · exact h3 q h
  have hn : noisy (C i) = true → core st2 = core (T i) := fun hni => same fun j hj hnj hb => by
    rcases compat_loud (btw j hj hnj hb) hnj with h | h | ⟨q, _, h, _⟩ <;> rw [h] at hni <;> cases hni
  obtain ⟨st3, g1, g2, g3⟩ := stepO_free hQ (tr.step i o ho) hl hh hn
  refine ⟨st3, g1, fun t => ?_, ?_, ?_⟩
  · -- the slots
    rw [g2 t]
    have hsp : ∀ j, j ≠ i → S' j = S j := hs
    split
    · rename_i hdst
      have : valS ops T S' t ops.size = valS ops T S' t (i + 1) := valS_skip' (by omega) fun j h1 h2 hS hdj => by
        rw [hs j (by omega)] at hS
        exact (bs j h2 (.inr ⟨by omega, hS⟩)).2.2 t hdst hdj
      rw [this]
      simp only [valS]
      rw [h1, ho]
      simp [hdst]
    · rename_i hdst
      rw [inv.val t]
      refine (valS_congr ops.size fun j hj hdj => hs j ?_).symm
      rintro rfl
      rw [ho] at hdj
      exact hdst hdj
  · rw [g3]
    cases hni : noisy (C i) with
    | false =>
      refine ⟨p, p1, by simpa [hni] using p2, fun j hj hnj => ?_⟩
      have : j ≠ i := by rintro rfl; rw [hni] at hnj; cases hnj
      rw [hs j this]
      exact p3 j hj hnj
    | true =>
      refine ⟨i + 1, by omega, by simp, fun j hj hnj => ?_⟩
      by_cases e : j = i
      · subst e; simp [h1]
      · rw [hs j e]
        have nb : ¬ ((j < i ∧ S j = false) ∨ (i < j ∧ S j = true)) := fun hb => by
          rcases compat_loud (bs j hj hb).1 hnj with h | h | ⟨q, _, h, _⟩ <;> rw [h] at hni <;> cases hni
        constructor
        · intro hS
          rcases Nat.lt_or_ge j i with hlt | hge
          · omega
          · exact (nb (.inr ⟨by omega, hS⟩)).elim
        · intro hlt
          cases hS : S j with
          | true => rfl
          | false => exact (nb (.inl ⟨by omega, hS⟩)).elim
  · intro j y hy hSj e hey
    by_cases ej : j = i
    · subst ej
      rw [ho] at hy
      injection hy with hy
      subst hy
      have := he e hey
      by_cases ee : e = j
      · subst ee; exact h1
      · rw [hs e ee]; exact this
    · rw [hs j ej] at hSj
      have := inv.closed j y hy hSj e hey
      by_cases ee : e = i
      · subst ee; exact h1
      · rw [hs e ee]; exact this
end

theorem SRel.alike {nt : Nat} {st st2 : St} (s : SRel F m nt st2 a w) (hf : ∀ t, get st2.fr t = get st.fr t) (hc : core st2 = core st) : SRel F m nt st a w := by
  simp only [core, Prod.mk.injEq] at hc
  refine ⟨hc.1 ▸ s.rel, ⟨fun t y h => s.fr.get t y (by rw [hf]; exact h)⟩, s.size, s.defers⟩

theorem Rel.drawn (r : Rel F m h w) (n : Nat) : Rel F m h { w with drawn := n } := by
  refine ⟨r.fz, fun id k gen els ex hr => ?_, fun id es c hr => ?_, r.fresh, r.freshM, r.inj, r.injM⟩
  · obtain ⟨g, C, e, cur, x⟩ := r.row id k gen els ex hr
    exact ⟨g, C, e, cur, ⟨x.mp, x.pos, x.heap, x.own, x.size, x.len, x.exact, x.ty, x.most, x.all, x.cells, x.gens⟩⟩
  · obtain ⟨g, ents, x⟩ := r.map id es c hr
    exact ⟨g, ents, ⟨x.mp, x.heap, x.own, x.ents⟩⟩

section
variable {E : Env} {K : CallK} {f : FuncId} {nt n0 : Nat} {ops : Array Oper} {T : Nat → St} {C : Nat → Cl}

theorem edges_ready {S : Array Bool} {o : Oper} : (∀ e ∈ o.after, Region.binds .any e = true → S.getD e.on false = true) ↔ ∀ e ∈ edgesOf o, S.getD e false = true := by
  unfold edgesOf
  constructor
  · intro h e he
    obtain ⟨e', h1, rfl⟩ := List.mem_map.1 he
    obtain ⟨h2, h3⟩ := List.mem_filter.1 h1
    exact h e' (by simpa using h2) h3
  · intro h e he hb
    exact h e.on (List.mem_map.2 ⟨e, List.mem_filter.2 ⟨by simpa using he, hb⟩, rfl⟩)

theorem getD_both {S : Array Bool} {i : Nat} (hi : i < S.size) (b c : Bool) : S.getD i b = S.getD i c := by
  simp [hi]

theorem draw_go (hE : E.ZerosOK) (hK : CallOK E.P K) (hQ : QuietK K) (tr : Trace E K f nt n0 ops T C) {prs : List (Nat × Nat)} (hd : drawOK ops prs = true)
    (hc : ∀ i j x y, ops[i]? = some x → ops[j]? = some y → i < j → pairOK ops prs i j x y = true → compat (C i) (C j) = true) {Q : Exit → Act → World → Prop} :
    ∀ (fuel : Nat) (S : Array Bool) (st2 : St) (F : Fz) (m : Mp) (a : Act) (w : World), S.size = ops.size → DInv ops T C (fun j => S.getD j false) st2 → cnt (fun j => S.getD j false) ops.size ≤ fuel → SRel F m nt st2 a w →
      (∀ a' w' F' m', Ext F m F' m' → SRel F' m' nt (T ops.size) a' w' → Same w w' → Q .normal a' w') → wpAny E.P .any ops Q fuel S a w := by
  have fin : ∀ (S : Array Bool) (st2 : St) (F : Fz) (m : Mp) (a : Act) (w : World), S.size = ops.size → DInv ops T C (fun j => S.getD j false) st2 → SRel F m nt st2 a w →
      (∀ j, j < ops.size → S.getD j false = true) → SRel F m nt (T ops.size) a w := by
    intro S st2 F m a w hsz inv s hall
    refine s.alike (fun t => ?_) ?_
    · rw [inv.val t]
      exact valS_text tr ops.size (Nat.le_refl _) fun j hj _ => hall j hj
    · obtain ⟨p, p1, p2, p3⟩ := inv.mem
      rw [p2]
      have := chain_core hQ tr (ops.size - p) p (by omega) fun j g1 g2 => by
        cases hn : noisy (C j) with
        | false => rfl
        | true =>
          have := (p3 j (by omega) hn).1 (hall j (by omega))
          omega
      rw [show p + (ops.size - p) = ops.size by omega] at this
      exact this.symm
  have stuck : ∀ (S : Array Bool), S.size = ops.size → Region.ready .any ops S = [] → ∀ j, j < ops.size → S.getD j false = true := by
    intro S hsz hr j
    induction j using Nat.strongRecOn with
    | _ j ih =>
      intro hj
      cases hS : S.getD j false with
      | true => rfl
      | false =>
        have ho : ops[j]? = some ops[j] := Array.getElem?_eq_getElem hj
        have : j ∈ Region.ready .any ops S := by
          rw [mem_ready]
          refine ⟨by rw [getD_both (by omega) true false]; exact hS, _, ho, ?_⟩
          rw [edges_ready]
          intro e he
          have hlt := (drawOK_spec hd ho).1 e he
          exact ih e hlt (by omega)
        rw [hr] at this
        cases this
  intro fuel
  induction fuel with
  | zero =>
    intro S st2 F m a w hsz inv hcn s hq
    have hall := cnt_zero (S := fun j => S.getD j false) ops.size (by omega)
    refine ⟨?_, hq a w F m (Ext.refl _ _) (fin S st2 F m a w hsz inv s hall) (Same.refl _)⟩
    rw [List.eq_nil_iff_forall_not_mem]
    intro i hi
    rw [mem_ready] at hi
    obtain ⟨h0, o, ho, _⟩ := hi
    have hi' := (Array.getElem?_eq_some_iff.1 ho).1
    have := hall i hi'
    rw [getD_both (by omega) true false] at h0
    rw [h0] at this
    cases this
  | succ fuel ih =>
    intro S st2 F m a w hsz inv hcn s hq
    refine ⟨fun hr => hq a w F m (Ext.refl _ _) (fin S st2 F m a w hsz inv s (stuck S hsz hr)) (Same.refl _), fun i hi => ?_⟩
    rw [mem_ready] at hi
    obtain ⟨h0, o, ho, hedge⟩ := hi
    have hi' := (Array.getElem?_eq_some_iff.1 ho).1
    rw [getD_both (by omega) true false] at h0
    have h1 : (S.setIfInBounds i true).getD i false = true := by simp [hsz, hi']
    have hs : ∀ j, j ≠ i → (S.setIfInBounds i true).getD j false = S.getD j false := fun j hj => getD_set_ne false (Ne.symm hj)
    obtain ⟨st3, g1, g2⟩ := DInv.next (S' := fun j => (S.setIfInBounds i true).getD j false) hQ tr hd hc inv ho h0 (edges_ready.1 hedge) h1 hs
    refine stepO_sound hE hK ho g1 s fun a' w' F' m' he s' hsm => ?_
    have hcs := cnt_set (S := fun j => S.getD j false) (S' := fun j => (S.setIfInBounds i true).getD j false) h0 h1 hs ops.size hi'
    exact ih (S.setIfInBounds i true) st3 F' m' a' w' (by simpa using hsz) g2 (by omega) s' fun a2 w2 F2 m2 he2 s2 hsm2 => hq a2 w2 F2 m2 (he.trans he2) s2 (hsm.trans hsm2)

theorem DInv.init {ops : Array Oper} {T : Nat → St} {C : Nat → Cl} {S : Nat → Bool} (hS : ∀ j, S j = false) : DInv ops T C S (T 0) := by
  refine ⟨fun t => ?_, ⟨0, Nat.zero_le _, rfl, fun j _ _ => by simp [hS]⟩, fun i o _ h => by rw [hS] at h; cases h⟩
  have := valS_skip (ops := ops) (T := T) (S := S) (t := t) ops.size 0 fun j _ _ h => by rw [hS] at h; cases h
  rw [Nat.zero_add] at this
  rw [this]
  rfl

/-- A REGION WHOSE ORDER IS DRAWN. -/
theorem region_draw (hm : E.P.follows .mixedOrders = true) (hE : E.ZerosOK) (hK : CallOK E.P K) (hQ : QuietK K) {prs : List (Nat × Nat)} (hd : drawOK ops prs = true) {st st' : St} {cs : List Cl}
    (hr : runOps E K f nt n0 ops ops.toList st [] = some (st', cs)) (hp : pairsOK cs prs = true) (s : SRel F m nt st a w) {id : Nat} {Q : Exit → Act → World → Prop}
    (hq : ∀ a' w' F' m', Ext F m F' m' → SRel F' m' nt st' a' w' → Same w w' → Q .normal a' w') : (Code.region id ops true).wp E.P Q a w := by
  obtain ⟨T, C, l, t1, t2, t3, t4, t5, t6⟩ := runOps_trace _ _ _ hr
  have tr : Trace E K f nt n0 ops T C := ⟨fun i o ho => t3 i o (by simpa using ho)⟩
  have hl : cs.length = ops.size := by rw [t4]; simp [t5]
  have cat : ∀ i, i < ops.size → cs[cs.length - 1 - i]? = some (C i) := fun i hi => by
    rw [hl, t4, List.append_nil]
    have h6 := t6 i (by simpa using hi)
    have t5' : l.length = ops.size := by simpa using t5
    rw [List.getElem?_reverse (by omega), t5', ← h6]
    congr 1
    omega
  have hc : ∀ i j x y, ops[i]? = some x → ops[j]? = some y → i < j → pairOK ops prs i j x y = true → compat (C i) (C j) = true := by
    intro i j x y hx hy hlt hpo
    have hi := (Array.getElem?_eq_some_iff.1 hx).1
    have hj := (Array.getElem?_eq_some_iff.1 hy).1
    simp only [pairOK, Bool.and_eq_true, Bool.or_eq_true] at hpo
    have sx := tr.step i x hx
    have sy := tr.step j y hy
    have g : ∀ (k : Nat) (z : Oper) (u v : St) (c : Cl), stepO E K f nt n0 ops z u = some (v, c) → Nat.ble (stat z) 1 = true → c = .skip ∨ c = .pure ∨ ∃ i, c = .rd i := by
      intro k z u v c hz hb
      have hb := Nat.le_of_ble_eq_true hb
      rcases Nat.eq_zero_or_pos (stat z) with h0 | h0
      · rcases stat0 hz h0 with h | h
        · exact .inl h
        · exact .inr (.inl h)
      · exact stat1 hz (by omega)
    rcases hpo.2 with ((h | h) | h) | h
    · exact compat_of (.inl (stat0 sx (Nat.eq_of_beq_eq_true h)))
    · exact compat_of (.inr (.inl (stat0 sy (Nat.eq_of_beq_eq_true h))))
    · exact compat_of (.inr (.inr ⟨g i x _ _ _ sx h.1, g j y _ _ _ sy h.2⟩))
    · exact pairsOK_spec prs hp h (cat i hi) (cat j hj)
  refine wp_region_any hm ?_
  have s' : SRel F m nt (T 0) a { w with drawn := w.drawn + 1 } := by
    rw [t1]
    exact ⟨s.rel.drawn _, s.fr, s.size, s.defers⟩
  have hz : ∀ j, (Array.replicate ops.size false).getD j false = false := fun j => by
    by_cases hj : j < ops.size <;> simp [hj]
  refine draw_go hE hK hQ tr hd hc ops.size _ (T 0) F m a _ (by simp) (DInv.init hz) ?_ s' fun a' w' F' m' he s2 hsm => ?_
  · have : ∀ n, cnt (fun j => (Array.replicate ops.size false).getD j false) n = n := by
      intro n
      induction n with
      | zero => rfl
      | succ n ih => simp only [cnt]; rw [ih, hz]; rfl
    rw [this]
    exact Nat.le_refl _
  · have e : T ops.size = st' := by simpa using t2
    rw [e] at s2
    exact hq a' w' F' m' he s2 ⟨hsm.os, hsm.tape, hsm.output, hsm.size, Nat.le_trans (Nat.le_succ _) hsm.drawn⟩
end

end Go.AM
