/- slices.AppendSeq(nil, ..), second part: the whole function. Conditions: none. -/
import Derived.Test.YtobdjegooonklaaGreatAmSeq
import Derived.TacticsIn
set_option linter.unusedVariables false
set_option linter.unusedSimpArgs false
namespace Go.AM
open Go

variable {F F' : Fz} {m m' : Mp} {fr : FR} {a : Act} {h : Heap} {w : World} {P : Program}

/-- What an iterator owes: it returns, and has given things of which 'good' holds. -/
def IterOK (P : Program) (g : FuncId) (lb : List AV) (h0 : Heap) (k : Nat) (good : List AV → Prop) : Prop := ∀ (c : SeqC), RoundOK P c → c.h0 = h0 → c.k = k → c.D < c.l → ∀ (F : Fz) (m : Mp) (W : World) (vs : List Value), At c [] F m W → VL F m lb vs →
  c.F0 c.l = none → CallsIn Fence.wide 0 P g (#[.func (.yield c.l) #[] #[]] ++ vs.toArray) W fun e W' => ∃ v, e = .returned v ∧ ∃ xs F' m', good xs ∧ At c xs F' m' W'

theorem Rel.open (r : Rel F m h w) (o : Obj) : Rel (Fz.add F w.heap.size o) m h (w.alloc o) ∧ Ext F m (Fz.add F w.heap.size o) m := r.frozenBlock o

/-- THE FUNCTION. -/
theorem seq_calls {E : Env} (hE : E.ZerosOK) {f : FuncId} {fn : Func} {ts te k : Nat} {o0 o1 oA oB o4 : Array Oper} (R : SeqRuns E f ts te k o0 o1 oA oB o4) {i0 i1 iA iB i4 : Nat}
    (hf : E.P.funcs[f]? = some fn) (hb : fn.body = some (.seq (.region i0 o0 false) (.seq (.seq (.region i1 o1 false) (.block 0 (.rangeFunc (.tmp 6) #[7] (.region iA oA false) (.block 1 (.region iB oB false))))) (.seq (.region i4 o4 false) .ret))))
    (hn : fn.ntmps = 13) (hres : fn.results = #[.tmp 4]) {g : FuncId} {lb : List AV} {vs : List Value} (eg : ∀ args w, (callFunc g args).run E.P w = .ok (.enter g args) w) {good : List AV → Prop} (hit : IterOK E.P g lb h k good)
    (r : Rel F m h w) (hv : VL F m lb vs) : Calls E.P f #[.slice none 0 0, .func (.func g) #[] vs.toArray] w fun e w' => ∃ v, e = .returned v ∧ ∃ xs F' m' b h', good xs ∧ Shape h ts te k xs h' ∧ h'[h.length]? = some (.row 1 0 [b] ⟨true, ts⟩) ∧
      Rel F' m' h' w' ∧ Ext F m F' m' ∧ VRel F' m' b v ∧ Same w w' := by
  have wide : ∀ f, Fence.wide.fn f := fun _ => trivial
  have deep : Fence.wide.depth.isSome = true → 1 ≤ 0 := fun h => by cases h
  refine (callsIn_wide (n := 0)).1 (callsIn_of_wp_marks hf hb trivial ?_)
  rw [hn]
  have s0 : SRl F m 13 ⟨[(0, nilS), (1, .fn (.func g) [] lb)], h, [], []⟩ { tmps := #[.slice none 0 0, .func (.func g) #[] vs.toArray] ++ Array.replicate (13 - #[Value.slice none 0 0, .func (.func g) #[] vs.toArray].size) undef, defers := [] } w := by
    refine ⟨r, ⟨fun t z hz => ?_⟩, by simp⟩
    simp only [get] at hz
    cases h0 : Nat.beq 0 t with
    | true =>
      have := Nat.eq_of_beq_eq_true h0
      subst this
      simp only [h0, cond_true, Option.some.injEq] at hz
      subst hz
      exact ⟨.slice none 0 0, by simp, by simp [VRel, free]⟩
    | false =>
      simp only [h0, cond_false] at hz
      cases h1 : Nat.beq 1 t with
      | true =>
        have := Nat.eq_of_beq_eq_true h1
        subst this
        simp only [h1, cond_true, Option.some.injEq] at hz
        subst hz
        exact ⟨.func (.func g) #[] vs.toArray, by simp, by simp only [VRel, VL]; exact ⟨[], vs, rfl, hv, rfl⟩⟩
      | false => simp [h1] at hz
  obtain ⟨cs0, ds0, ls0, hr0⟩ := outR_eq (R.r0 h (.fn (.func g) [] lb))
  refine wpIn_seq (region_in wide hE hr0 s0 fun a1 w1 F1 m1 he1 s1 hd1 hsm1 => ?_)
  obtain ⟨cs1, ds1, ls1, hr1⟩ := outR_eq (R.r1 (h ++ [Row.row 1 0 [nilS] ⟨true, ts⟩]) h.length (.fn (.func g) [] lb) (.ptr h.length 0 0 [] 0))
  refine wpIn_seq (wpIn_seq (region_in wide hE hr1 s1.plain fun a2 w2 F2 m2 he2 s2 hd2 hsm2 => wpIn_block ?_))
  have hd : a2.defers = [] := by rw [hd2, hd1]
  -- the range
  obtain ⟨gv, g1, g2⟩ := s2.fr.get 6 (.fn (.func g) [] lb) rfl
  simp only [VRel, VL] at g2
  obtain ⟨xs0, vs2, g3, g4, rfl⟩ := g2
  subst g3
  obtain ⟨bv, b1, b2⟩ := s2.fr.get 2 (.ptr h.length 0 0 [] 0) rfl
  have hev : a2.eval (.tmp 6) = .func (.func g) #[] vs2.toArray := by simp [Act.eval, g1]
  refine wpIn_rangeFunc fun fn' _ => ?_
  let L : Loop := { state := .ready, pending := none, fn := fn', tmps := a2.tmps, params := #[7], assign := .region iA oA false, body := .block 1 (.region iB oB false), defers := w2.heap.size }
  refine ⟨w2.heap.size + 1, [{ target := .collected w2.heap.size, args := #[] }], (w2.alloc (.deferred (some []))).alloc (.loop L),
    { target := .fn (.func g) vs2.toArray, args := #[.func (.yield (w2.heap.size + 1)) #[] #[]] }, (w2.alloc (.deferred (some []))).alloc (.loop L), g, #[.func (.yield (w2.heap.size + 1)) #[] #[]] ++ vs2.toArray, (w2.alloc (.deferred (some []))).alloc (.loop L), run_enterLoop_outer _ _ _ _ _, ?_, fun _ _ => trivial, ?_, deep, ?_⟩
  · simp only [resolve, hev]
    simp [go_sem]
  · simp [invoke, go_sem, eg]
  · -- the iterator
    obtain ⟨rD, eD⟩ := s2.rel.open (.deferred (some []))
    obtain ⟨rL, eL⟩ := rD.open (.loop { state := .ready, pending := none, fn := fn', tmps := a2.tmps, params := #[7], assign := .region iA oA false, body := .block 1 (.region iB oB false), defers := w2.heap.size })
    have szD : (w2.alloc (.deferred (some []))).heap.size = w2.heap.size + 1 := by simp
    rw [szD] at rL eL
    let c : SeqC := { F0 := F2, m0 := m2, w0 := w2, h0 := h, ts := ts, te := te, k := k, l := w2.heap.size + 1, D := w2.heap.size, fn := fn', tmps := a2.tmps, assign := .region iA oA false, body := .block 1 (.region iB oB false) }
    have hl0 : c.F0 c.l = none := s2.rel.none_at (Nat.le_succ _)
    have hround : RoundOK E.P c := round_ok hE R c rfl rfl rfl rfl rfl s2.size b1 b2 hl0
    have sh0 : Shape h ts te k [] (h ++ [Row.row 1 0 [nilS] ⟨true, ts⟩]) := by
      refine ⟨fun id hi => by rw [List.getElem?_append_left hi], nilS, by simp, .inl ⟨rfl, rfl⟩⟩
    have hat : At c [] (Fz.add (Fz.add F2 w2.heap.size (.deferred (some []))) (w2.heap.size + 1) (.loop (c.rec_ .ready))) m2 ((w2.alloc (.deferred (some []))).alloc (.loop (c.rec_ .ready))) := by
      refine ⟨⟨_, sh0, rL⟩, eD.trans eL, by simp [Fz.add, c], by simp [Fz.add, c], (same_alloc _ _).trans (same_alloc _ _)⟩
    refine (hit c hround rfl rfl (Nat.lt_succ_self _) _ _ _ vs2 hat (VL.mono (eD.trans eL) lb vs2 g4) hl0).mono ?_
    rintro e w3 ⟨v, rfl, xs, F3, m3, hgood, hat3⟩
    obtain ⟨h3, sh3, r3⟩ := hat3.mem
    have hl3 := r3.fz _ _ hat3.loop
    have hlt3 : c.l < w3.heap.size := (Array.getElem?_eq_some_iff.1 hl3).1
    refine ⟨none, _, run_endLoop hl3 (by simp [SeqC.rec_]), ?_⟩
    -- behind the range
    have r4 := r3.swap hat3.loop loop_no_cells (o' := .loop { c.rec_ .ready with state := .exhausted }) (fun b hb => World.putObj_heap_other hb) (World.putObj_heap_same hlt3)
    have hne : c.D ≠ c.l := Nat.ne_of_lt (Nat.lt_succ_self _)
    have hD4 : Fz.add F3 c.l (.loop { c.rec_ .ready with state := .exhausted }) c.D = some (.deferred (some [])) := by
      unfold Fz.add
      rw [if_neg hne]
      exact hat3.defer
    have e4 : Ext F2 m2 (Fz.add F3 c.l (.loop { c.rec_ .ready with state := .exhausted })) m3 := by
      refine ⟨fun b o hb => ?_, hat3.ext.row, hat3.ext.map⟩
      have : b ≠ c.l := fun e => by subst e; rw [show F2 c.l = none from hl0] at hb; cases hb
      unfold Fz.add
      rw [if_neg this]
      exact hat3.ext.fz b o hb
    have s4 : SRl (Fz.add F3 c.l (.loop { c.rec_ .ready with state := .exhausted })) m3 13 ⟨[(6, .fn (.func g) [] lb), (4, nilS), (2, .ptr h.length 0 0 [] 0), (0, nilS), (1, .fn (.func g) [] lb)], h3, [], []⟩ { a2 with defers := [{ target := .collected w2.heap.size, args := #[] }] ++ a2.defers } (w3.putObj c.l (.loop { c.rec_ .ready with state := .exhausted })) :=
      ⟨r4, s2.fr.mono e4, s2.size⟩
    obtain ⟨b, hbox, hcase⟩ := sh3.box
    have hbl : isAggA b = false ∧ leafs b = 1 := by
      rcases hcase with ⟨_, rfl⟩ | ⟨_, id, gen, ex, _, rfl, _⟩ <;> exact ⟨rfl, rfl⟩
    obtain ⟨fr4, hr40, hg4⟩ := R.r4 h3 h.length h.length b (.fn (.func g) [] lb) hbl.1 hbl.2 hbox
    obtain ⟨cs4, ds4, ls4, hr4⟩ := outR_eq hr40
    show (Code.seq _ _).wpIn _ _ _ _ _ _
    refine wpIn_seq (region_in wide hE hr4 s4 fun a5 w5 F5 m5 he5 s5 hd5 hsm5 => wpIn_ret ?_)
    simp only [bodyPostM]
    rw [hd5]
    simp only [hd, List.append_nil]
    have hD5 : F5 c.D = some (.deferred (some [])) := he5.fz _ _ hD4
    have hw5 := s5.rel.fz _ _ hD5
    have hlt5 : c.D < w5.heap.size := (Array.getElem?_eq_some_iff.1 hw5).1
    refine ⟨by simp, .inl ⟨w2.heap.size, _, rfl, run_takeDeferred hw5, ?_⟩⟩
    have r6 := s5.rel.swap hD5 (fun _ _ _ e => by cases e) (o' := .deferred none) (w' := w5.putObj w2.heap.size (.deferred none)) (fun b hb => World.putObj_heap_other hb) (World.putObj_heap_same hlt5)
    obtain ⟨rv, v1, v2⟩ := s5.fr.get 4 b hg4
    have v3 := VRel.swap s5.rel (.deferred none) hD5 (fun _ _ _ e => by cases e) v2
    have hD0 : F2 c.D = none := s2.rel.none_at (Nat.le_refl _)
    have e6 : Ext F2 m2 (Fz.add F5 c.D (.deferred none)) m5 := by
      refine ⟨fun b o hb => ?_, fun id gen x hx => he5.row _ _ _ (e4.row _ _ _ hx), fun id x hx => he5.map _ _ (e4.map _ _ hx)⟩
      have : b ≠ c.D := fun e => by subst e; rw [hD0] at hb; cases hb
      unfold Fz.add
      rw [if_neg this]
      exact he5.fz _ _ (e4.fz b o hb)
    have hresv : (results fn a5.tmps).run E.P (w5.putObj w2.heap.size (.deferred none)) = .ok rv (w5.putObj w2.heap.size (.deferred none)) := by
      simp [results, hres, v1]
    have post : ∃ v, Ending.returned rv = .returned v ∧ ∃ xs F' m' b h', good xs ∧ Shape h ts te k xs h' ∧ h'[h.length]? = some (.row 1 0 [b] ⟨true, ts⟩) ∧
      Rel F' m' h' (w5.putObj w2.heap.size (.deferred none)) ∧ Ext F m F' m' ∧ VRel F' m' b v ∧ Same w (w5.putObj w2.heap.size (.deferred none)) :=
      ⟨rv, rfl, xs, _, m5, b, h3, hgood, sh3, hbox, r6, (he1.trans he2).trans e6, v3, (((hsm1.trans hsm2).trans hat3.same).trans (same_putObj _ _ _)).trans (hsm5.trans (same_putObj _ _ _))⟩
    simp only [LeavesInM, LeavesIn]
    exact ⟨rv, hresv, post⟩

end Go.AM
