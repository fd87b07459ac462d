/- slices.AppendSeq(nil, ..), fourth part: the two answers of the abstract machine. Conditions: none. -/
import Derived.Test.YtobdjegooonklaaGreatAmSeq3
set_option linter.unusedVariables false
set_option linter.unusedSimpArgs false
namespace Go.AM
open Go

variable {F F' : Fz} {m m' : Mp} {fr : FR} {a : Act} {h : Heap} {w : World} {P : Program}

theorem ovNoVals_eq {g : FuncId} {args : List AV} {h h' : Heap} {y : AV} {e : Eff} (ho : ovNoVals g args h = some (y, h', e)) : ∃ id gen i p o s, args = [nilS, .fn (.func g) [] [.ptr id gen i p o]] ∧ lookAt h (.ptr id gen i p o) = some s ∧ sliceLen s = some 0 ∧ y = nilS ∧ h' = h ∧ e = ⟨[], [], true⟩ := by
  unfold ovNoVals at ho
  split at ho
  · rename_i a' id gen i p o
    cases hb : Nat.beq a' g with
    | false => simp [hb] at ho
    | true =>
      have := Nat.eq_of_beq_eq_true hb
      subst this
      simp only [hb, cond_true] at ho
      split at ho
      · rename_i s hs
        cases hz : (sliceLen s == some 0) with
        | false => simp [hz] at ho
        | true =>
          simp only [hz, cond_true, Option.some.injEq, Prod.mk.injEq] at ho
          obtain ⟨rfl, rfl, rfl⟩ := ho
          exact ⟨id, gen, i, p, o, s, rfl, hs, by simpa using hz, rfl, rfl, rfl⟩
      · cases ho
  · cases ho

theorem lookAt_lt {id gen i o : Nat} {p : List Nat} {s : AV} (hs : lookAt h (.ptr id gen i p o) = some s) : id < h.length := by
  simp only [lookAt] at hs
  split at hs
  · rename_i hr
    exact (List.getElem?_eq_some_iff.1 hr).1
  · cases hs

/-- AN EMPTY SLICE's VALUES. -/
theorem ovNoVals_ok {E : Env} (H : E.OK) {f : FuncId} {fn : Func} {ts te k : Nat} {o0 o1 oA oB o4 : Array Oper} (R : SeqRuns E f ts te k o0 o1 oA oB o4) {i0 i1 iA iB i4 : Nat}
    (hf : E.P.funcs[f]? = some fn) (hb : fn.body = some (.seq (.region i0 o0 false) (.seq (.seq (.region i1 o1 false) (.block 0 (.rangeFunc (.tmp 6) #[7] (.region iA oA false) (.block 1 (.region iB oB false))))) (.seq (.region i4 o4 false) .ret))))
    (hn : fn.ntmps = 13) (hres : fn.results = #[.tmp 4]) (ef : ∀ args w, (callFunc f args).run E.P w = .ok (.enter f args) w) {g : FuncId} (eg : ∀ args w, (callFunc g args).run E.P w = .ok (.enter g args) w)
    (hrun : ∀ (id gen i : Nat) (p : List Nat) (o : Nat) (s : AV) (h : Heap) (l : Nat), sliceLen s = some 0 → lookAt h (.ptr id gen i p o) = some s → ∃ n r, call E n g [.fn (.yield l) [] [], .ptr id gen i p o] h = some (r, h, ⟨[], [], true⟩)) : OvOK E.P f (ovNoVals g) := by
  refine ⟨fun args h y h' e ho F m w vs r hv next hnx => ?_, fun args h y h' e ho hq => ?_, fun args h y h' e ho => ?_⟩ <;> obtain ⟨id, gen, i, p, o, s, rfl, hs, hz, rfl, rfl, rfl⟩ := ovNoVals_eq ho
  · simp only [VL] at hv
    obtain ⟨v1, _, h1, ⟨v2, _, h2, rfl, rfl⟩, rfl⟩ := hv
    simp only [VRel] at h1 h2
    obtain ⟨_, rfl⟩ := h1
    obtain ⟨xs, ys, g1, g2, rfl⟩ := h2
    simp only [VL] at g1
    subst g1
    have hit := iter_none (k := k) H eg (lookAt_lt hs) hs (fun h l hl => hrun id gen i p o s h l hz hl)
    have key := seq_calls H.zeros R hf hb hn hres eg hit r g2
    rw [ef]
    simp only [UponC]
    refine key.mono ?_
    rintro e w' ⟨v, rfl, xs, F', m', b, h2, rfl, sh, hbox, r2, he, hvb, hsm⟩
    obtain ⟨b', hb', hc⟩ := sh.box
    rw [hbox] at hb'
    injection hb' with hb'
    injection hb' with _ _ hb' _
    injection hb' with hb'
    subst hb'
    rcases hc with ⟨_, rfl⟩ | ⟨hne, _⟩
    · obtain ⟨r3, e3⟩ := Rel.back r r2 he sh.old
      refine ⟨v, rfl, hnx v w' _ _ e3 ?_ r3 hsm⟩
      simpa [VRel] using hvb
    · exact (hne rfl).elim
  · exact ⟨rfl, rfl, rfl⟩
  · exact Law.refl _

end Go.AM
