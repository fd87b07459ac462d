/- slices.AppendSeq(nil, ..): what an iterator gives, laid into a row. Conditions: none. -/
import Derived.Test.YtobdjegooonklaaGreatAmIn
set_option linter.unusedVariables false
set_option linter.unusedSimpArgs false
namespace Go.AM
open Go

variable {F F' : Fz} {m m' : Mp} {fr : FR} {a : Act} {h : Heap} {w : World} {P : Program}

abbrev nilS : AV := .v (.slice none 0 0)

/-- The heap between two rounds: 's' in its box, what has come in a row of its own. -/
structure Shape (h0 : Heap) (ts te k : Nat) (xs : List AV) (h : Heap) : Prop where
  old : ∀ id, id < h0.length → h[id]? = h0[id]?
  box : ∃ b, h[h0.length]? = some (.row 1 0 [b] ⟨true, ts⟩) ∧ ((xs = [] ∧ b = nilS) ∨ (xs ≠ [] ∧ ∃ id gen ex, h0.length < id ∧ b = .sl id gen 0 xs.length ∧ h[id]? = some (.row k gen xs ex) ∧ ex.ty = te))

theorem Shape.push {h0 : Heap} {ts te k : Nat} {xs : List AV} (s : Shape h0 ts te k xs h) (r : Row) : Shape h0 ts te k xs (h ++ [r]) := by
  have lt : ∀ {i : Nat} {x : Row}, h[i]? = some x → i < h.length := fun hx => (List.getElem?_eq_some_iff.1 hx).1
  obtain ⟨b, hb, hx⟩ := s.box
  refine ⟨fun id hi => ?_, b, by rw [List.getElem?_append_left (lt hb)]; exact hb, ?_⟩
  · have := lt hb
    rw [List.getElem?_append_left (by omega)]
    exact s.old id hi
  · rcases hx with hx | ⟨hx, id, gen, ex, h1, h2, h3, h4⟩
    · exact .inl hx
    · exact .inr ⟨hx, id, gen, ex, h1, h2, by rw [List.getElem?_append_left (lt h3)]; exact h3, h4⟩

/-- What lies fixed while the loop runs. -/
structure SeqC where
  F0 : Fz
  m0 : Mp
  w0 : World
  h0 : Heap
  ts : TypeId
  te : TypeId
  k : Nat
  l : Nat
  D : Nat
  fn : FuncId
  tmps : Array Value
  assign : Code
  body : Code

def SeqC.rec_ (c : SeqC) (st : LoopState) : Loop := { state := st, pending := none, fn := c.fn, tmps := c.tmps, params := #[7], assign := c.assign, body := c.body, defers := c.D }

/-- Between two rounds. -/
structure At (c : SeqC) (xs : List AV) (F : Fz) (m : Mp) (w : World) : Prop where
  mem : ∃ h, Shape c.h0 c.ts c.te c.k xs h ∧ Rel F m h w
  ext : Ext c.F0 c.m0 F m
  loop : F c.l = some (.loop (c.rec_ .ready))
  defer : F c.D = some (.deferred (some []))
  same : Same c.w0 w

def mostSeq : Nat := 1000000

/-- A round of the loop: one thing more has come. -/
def RoundOK (P : Program) (c : SeqC) : Prop := ∀ (n : Nat) (xs : List AV) (x : AV) (v : Value) (F : Fz) (m : Mp) (W : World), At c xs F m W → xs.length < mostSeq → toV x = some v → leafs x = c.k →
  RoundIn Fence.wide n P c.l c.fn (c.tmps.setIfInBounds 7 v) c.assign c.body W fun e W' => e = .returned (.bool true) ∧ ∃ F' m', Ext F m F' m' ∧ At c (xs ++ [x]) F' m' W'

theorem isTupA_of {x : AV} {v : Value} (h : toV x = some v) : isTupA x = false := by
  cases x <;> first | rfl | (simp [toV] at h)

/-- Of a region's run the slots and the heap. -/
def outR (r : Option (St × List Cl)) : Option (FR × Heap) := r.map fun p => (p.1.fr, p.1.h)

theorem outR_eq {r : Option (St × List Cl)} {fr : FR} {h : Heap} (ho : outR r = some (fr, h)) : ∃ cs ds ls, r = some (⟨fr, h, ds, ls⟩, cs) := by
  unfold outR at ho
  cases r with
  | none => cases ho
  | some p =>
    obtain ⟨⟨fr', h', ds, ls⟩, cs⟩ := p
    simp only [Option.map_some, Option.some.injEq, Prod.mk.injEq] at ho
    obtain ⟨rfl, rfl⟩ := ho
    exact ⟨cs, ds, ls, rfl⟩

/-- What the regions of the function do. -/
structure SeqRuns (E : Env) (f : FuncId) (ts te k : Nat) (o0 o1 oA oB o4 : Array Oper) : Prop where
  r0 : ∀ (h : Heap) (s : AV), outR (runOps E noK f 13 h.length o0 o0.toList ⟨[(0, nilS), (1, s)], h, [], []⟩ []) = some ([(4, nilS), (2, .ptr h.length 0 0 [] 0), (0, nilS), (1, s)], h ++ [Row.row 1 0 [nilS] ⟨true, ts⟩])
  r1 : ∀ (h : Heap) (n0 : Nat) (s p : AV), outR (runOps E noK f 13 n0 o1 o1.toList ⟨[(4, nilS), (2, p), (0, nilS), (1, s)], h, [], []⟩ []) = some ([(6, s), (4, nilS), (2, p), (0, nilS), (1, s)], h)
  rA : ∀ (h : Heap) (n0 : Nat) (p x : AV) (v : Value), toV x = some v → leafs x = k → outR (runOps E noK f 13 n0 oA oA.toList ⟨[(7, x), (2, p)], h, [], []⟩ []) = some ([(5, .ptr h.length 0 0 [] 0), (7, x), (2, p)], h ++ [Row.row k 0 [x] ⟨true, te⟩])
  rB : ∀ (h0 h : Heap) (n0 : Nat) (xs : List AV) (x : AV) (v : Value), Shape h0 ts te k xs h → xs.length < mostSeq → toV x = some v → leafs x = k →
    ∃ fr h2, outR (runOps E noK f 13 n0 oB oB.toList ⟨[(5, .ptr h.length 0 0 [] 0), (7, x), (2, .ptr h0.length 0 0 [] 0)], h ++ [Row.row k 0 [x] ⟨true, te⟩], [], []⟩ []) = some (fr, h2) ∧ Shape h0 ts te k (xs ++ [x]) h2
  r4 : ∀ (h : Heap) (n0 q : Nat) (b s : AV), isAggA b = false → leafs b = 1 → h[q]? = some (.row 1 0 [b] ⟨true, ts⟩) → ∃ fr, outR (runOps E noK f 13 n0 o4 o4.toList ⟨[(6, s), (4, nilS), (2, .ptr q 0 0 [] 0), (0, nilS), (1, s)], h, [], []⟩ []) = some (fr, h) ∧ get fr 4 = some b

theorem SRl.plain {nt : Nat} {fr : FR} {h : Heap} {ds ls ds' ls' : List Nat} (s : SRl F m nt ⟨fr, h, ds, ls⟩ a w) : SRl F m nt ⟨fr, h, ds', ls'⟩ a w := ⟨s.rel, s.fr, s.size⟩

theorem same_putObj (w : World) (b : Nat) (o : Obj) : Same w (w.putObj b o) := ⟨rfl, rfl, rfl, by simp⟩

theorem loop_no_cells {l : Loop} : ∀ c e f, Obj.loop l ≠ .cells c e f := fun _ _ _ h => by cases h

/-- A ROUND. -/
theorem round_ok {E : Env} (hE : E.ZerosOK) {f : FuncId} {ts te k : Nat} {o0 o1 oA oB o4 : Array Oper} (R : SeqRuns E f ts te k o0 o1 oA oB o4) (c : SeqC) {iA iB : Nat} (hts : c.ts = ts) (hte : c.te = te) (hk : c.k = k)
    (hA : c.assign = .region iA oA false) (hB : c.body = .block 1 (.region iB oB false)) (hs : c.tmps.size = 13) {bv : Value} (hb : c.tmps[2]? = some bv) (hbv : VRel c.F0 c.m0 (.ptr c.h0.length 0 0 [] 0) bv) (hl0 : c.F0 c.l = none) : RoundOK E.P c := by
  subst hts; subst hte; subst hk
  intro n xs x v F m W hat hlen hx hkx
  obtain ⟨h, sh, r⟩ := hat.mem
  obtain ⟨hv, hvt⟩ := toV_self (F := F) (m := m) x v hx
  refine roundIn_of_wpIn (F := Fence.wide) trivial ?_
  rw [hA, hB]
  obtain ⟨csA, dsA, lsA, hrA⟩ := outR_eq (R.rA h h.length (.ptr c.h0.length 0 0 [] 0) x v hx hkx)
  have s0 : SRl F m 13 ⟨[(7, x), (2, .ptr c.h0.length 0 0 [] 0)], h, [], []⟩ { tmps := c.tmps.setIfInBounds 7 v, defers := [] } W := by
    refine ⟨r, ⟨fun t z hz => ?_⟩, by simpa using hs⟩
    simp only [get] at hz
    cases h7 : Nat.beq 7 t with
    | true =>
      have := Nat.eq_of_beq_eq_true h7
      subst this
      simp only [h7, cond_true, Option.some.injEq] at hz
      subst hz
      exact ⟨v, by simp [hs], hv⟩
    | false =>
      simp only [h7, cond_false] at hz
      cases h2 : Nat.beq 2 t with
      | true =>
        have := Nat.eq_of_beq_eq_true h2
        subst this
        simp only [h2, cond_true, Option.some.injEq] at hz
        subst hz
        exact ⟨bv, by simp [hb], hbv.mono hat.ext⟩
      | false => simp [h2] at hz
  refine region_in (fun _ => trivial) hE hrA s0 fun a1 w1 F1 m1 he1 s1 hd1 hsm1 => ?_
  have hl1 : F1 c.l = some (.loop (c.rec_ .ready)) := he1.fz _ _ hat.loop
  have hw1 := s1.rel.fz _ _ hl1
  refine ⟨_, run_beginRound hw1 rfl, ?_⟩
  have hlt1 : c.l < w1.heap.size := (Array.getElem?_eq_some_iff.1 hw1).1
  -- the record is busy
  have s2 : SRl (Fz.add F1 c.l (.loop { c.rec_ .ready with state := .busy })) m1 13 ⟨[(5, .ptr h.length 0 0 [] 0), (7, x), (2, .ptr c.h0.length 0 0 [] 0)], h ++ [Row.row c.k 0 [x] ⟨true, c.te⟩], [], []⟩ a1 (w1.putObj c.l (.loop { c.rec_ .ready with state := .busy })) := by
    refine ⟨s1.rel.swap hl1 loop_no_cells (fun b hb => World.putObj_heap_other hb) (World.putObj_heap_same hlt1), ⟨fun t z hz => ?_⟩, s1.size⟩
    obtain ⟨u, u1, u2⟩ := s1.fr.get t z hz
    exact ⟨u, u1, VRel.swap s1.rel _ hl1 loop_no_cells u2⟩
  obtain ⟨frB, h2, hrB0, sh2⟩ := R.rB c.h0 h h.length xs x v sh hlen hx hkx
  obtain ⟨csB, dsB, lsB, hrB⟩ := outR_eq hrB0
  refine wpIn_block (region_in (fun _ => trivial) hE hrB s2 fun a3 w3 F3 m3 he3 s3 hd3 hsm3 => ?_)
  have hl3 : F3 c.l = some (.loop { c.rec_ .ready with state := .busy }) := he3.fz _ _ (by simp [Fz.add])
  have hw3 := s3.rel.fz _ _ hl3
  have hlt3 : c.l < w3.heap.size := (Array.getElem?_eq_some_iff.1 hw3).1
  simp only [Exit.inBlock, roundPost]
  refine ⟨_, _, run_endRound none hw3, rfl, Fz.add F3 c.l (.loop (c.rec_ .ready)), m3, ?_, ?_⟩
  · refine ⟨fun b o hb => ?_, fun id gen y hy => he3.row _ _ _ (he1.row _ _ _ hy), fun id y hy => he3.map _ _ (he1.map _ _ hy)⟩
    unfold Fz.add
    by_cases e : b = c.l
    · subst e
      rw [if_pos rfl, ← hat.loop]
      exact hb
    · rw [if_neg e]
      refine he3.fz _ _ ?_
      unfold Fz.add
      rw [if_neg e]
      exact he1.fz _ _ hb
  · have hne : c.D ≠ c.l := fun e => by have h1 := hat.defer; rw [e, hat.loop] at h1; cases h1
    refine ⟨⟨h2, sh2, s3.rel.swap hl3 loop_no_cells (fun b hb => World.putObj_heap_other hb) (World.putObj_heap_same hlt3)⟩, ?_, by simp [Fz.add], ?_, ?_⟩
    · refine ⟨fun b o hb => ?_, fun id gen y hy => he3.row _ _ _ (he1.row _ _ _ (hat.ext.row _ _ _ hy)), fun id y hy => he3.map _ _ (he1.map _ _ (hat.ext.map _ _ hy))⟩
      have e : b ≠ c.l := fun e => by subst e; rw [hl0] at hb; cases hb
      unfold Fz.add
      rw [if_neg e]
      refine he3.fz _ _ ?_
      unfold Fz.add
      rw [if_neg e]
      exact he1.fz _ _ (hat.ext.fz _ _ hb)
    · unfold Fz.add
      rw [if_neg hne]
      refine he3.fz _ _ ?_
      unfold Fz.add
      rw [if_neg hne]
      exact he1.fz _ _ hat.defer
    · exact (((hat.same.trans hsm1).trans (same_putObj _ _ _)).trans hsm3).trans (same_putObj _ _ _)

end Go.AM
