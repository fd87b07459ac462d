/- slices.AppendSeq(nil, maps.Keys(..)) of a map of at most one entry. Conditions: none. -/
import Derived.Test.YtobdjegooonklaaGreatAmKeys
import Derived.Test.YtobdjegooonklaaGreatAmSeq4
set_option linter.unusedVariables false
set_option linter.unusedSimpArgs false
namespace Go.AM
open Go

variable {F F' : Fz} {m m' : Mp} {fr : FR} {a : Act} {h : Heap} {w : World} {P : Program}

/-- The key of a map that has one, laid behind nothing. -/
def ovOneKey (gKeys k : Nat) (e : TypeId) : Ov := fun args h => match args with
  | [.v (.slice none 0 0), .fn (.func a) [] [.ptr id gen i p o]] => bif Nat.beq a gKeys then
      match lookAt h (.ptr id gen i p o) with
      | some (.map m) => match h[m]? with
        | some (.map [(x, _, b)] c) => bif Nat.beq (leafs x) k && (idfree x && (Nat.blt b c && (toV x).isSome)) then some (.sl h.length 0 0 1, newRow h k [x] ⟨false, e⟩, ⟨[], [], false⟩) else none
        | some (.map [] _) => some (.v (.slice none 0 0), h, ⟨[], [], true⟩)
        | _ => none
      | _ => none
    else none
  | _ => none

theorem ovOneKey_eq {g k : Nat} {te : TypeId} {args : List AV} {h h' : Heap} {y : AV} {e : Eff} (ho : ovOneKey g k te args h = some (y, h', e)) : ∃ id gen i p o mid es c, args = [nilS, .fn (.func g) [] [.ptr id gen i p o]] ∧ lookAt h (.ptr id gen i p o) = some (.map mid) ∧ h[mid]? = some (.map es c) ∧
    ((es = [] ∧ y = nilS ∧ h' = h ∧ e = ⟨[], [], true⟩) ∨ ∃ x v b u, es = [(x, v, b)] ∧ leafs x = k ∧ idfree x = true ∧ b < c ∧ toV x = some u ∧ y = .sl h.length 0 0 1 ∧ h' = newRow h k [x] ⟨false, te⟩ ∧ e = ⟨[], [], false⟩) := by
  unfold ovOneKey at ho
  split at ho
  · rename_i a' id gen i p o
    cases hb : Nat.beq a' g with
    | false => simp [hb] at ho
    | true =>
      have := Nat.eq_of_beq_eq_true hb
      subst this
      simp only [hb, cond_true] at ho
      split at ho
      · rename_i mid hs
        split at ho
        · rename_i x v b c hm
          cases hz : (Nat.beq (leafs x) k && (idfree x && (Nat.blt b c && (toV x).isSome))) with
          | false => simp [hz] at ho
          | true =>
            simp only [hz, cond_true, Option.some.injEq, Prod.mk.injEq] at ho
            obtain ⟨rfl, rfl, rfl⟩ := ho
            simp only [Bool.and_eq_true] at hz
            obtain ⟨h1, h2, h3, h4⟩ := hz
            obtain ⟨u, hu⟩ := Option.isSome_iff_exists.1 h4
            exact ⟨id, gen, i, p, o, mid, _, c, rfl, hs, hm, .inr ⟨x, v, b, u, rfl, Nat.eq_of_beq_eq_true h1, h2, Nat.le_of_ble_eq_true h3, hu, rfl, rfl, rfl⟩⟩
        · rename_i c hm
          simp only [Option.some.injEq, Prod.mk.injEq] at ho
          obtain ⟨rfl, rfl, rfl⟩ := ho
          exact ⟨id, gen, i, p, o, mid, _, c, rfl, hs, hm, .inl ⟨rfl, rfl, rfl, rfl⟩⟩
        · cases ho
      · cases ho
  · cases ho

/-- What a function leaves that lays a map's keys. -/
theorem ovOneKey_ok {E : Env} (hE : E.ZerosOK) {f : FuncId} {fn : Func} {ts te k : Nat} {o0 o1 oA oB o4 : Array Oper} (R : SeqRuns E f ts te k o0 o1 oA oB o4) {i0 i1 iA iB i4 : Nat}
    (hf : E.P.funcs[f]? = some fn) (hb : fn.body = some (.seq (.region i0 o0 false) (.seq (.seq (.region i1 o1 false) (.block 0 (.rangeFunc (.tmp 6) #[7] (.region iA oA false) (.block 1 (.region iB oB false))))) (.seq (.region i4 o4 false) .ret))))
    (hn : fn.ntmps = 13) (hres : fn.results = #[.tmp 4]) (ef : ∀ args w, (callFunc f args).run E.P w = .ok (.enter f args) w) {g : FuncId} (eg : ∀ args w, (callFunc g args).run E.P w = .ok (.enter g args) w)
    (hit : ∀ (h0 : Heap) (id gen i o : Nat) (p : List Nat) (es : List (AV × AV × Nat)) (cl mid : Nat), lookAt h0 (.ptr id gen i p o) = some (.map mid) → h0[mid]? = some (.map es cl) → (es.map (·.2.2)).Nodup → (∀ e ∈ es, e.2.2 < cl) → (∀ e ∈ es, ∃ v, toV e.1 = some v ∧ leafs e.1 = k) → es.length < mostSeq →
      IterOK E.P g [.ptr id gen i p o] h0 k (fun xs => ∃ dn : List (AV × AV × Nat), dn.Perm es ∧ xs = dn.map (·.1))) : OvOK E.P f (ovOneKey g k te) := by
  refine ⟨fun args h y h' e ho F m w vs r hv next hnx => ?_, fun args h y h' e ho hq => ?_, fun args h y h' e ho => ?_⟩ <;> obtain ⟨id, gen, i, p, o, mid, es, c, rfl, hs, hm, hcase⟩ := ovOneKey_eq ho
  · simp only [VL] at hv
    obtain ⟨v1, _, h1, ⟨v2, _, h2, rfl, rfl⟩, rfl⟩ := hv
    simp only [VRel] at h1 h2
    obtain ⟨_, rfl⟩ := h1
    obtain ⟨xs, ys, g1, g2, rfl⟩ := h2
    simp only [VL] at g1
    subst g1
    have hI : IterOK E.P g [.ptr id gen i p o] h k (fun xs => ∃ dn : List (AV × AV × Nat), dn.Perm es ∧ xs = dn.map (·.1)) := by
      refine hit h id gen i o p es c mid hs hm ?_ ?_ ?_ ?_ <;> rcases hcase with ⟨rfl, _⟩ | ⟨x, v, b, u, rfl, c1, c2, c3, c4, _⟩
      · simp
      · simp
      · exact fun e he => nomatch he
      · intro e he; rw [List.mem_singleton.1 he]; exact c3
      · exact fun e he => nomatch he
      · intro e he; rw [List.mem_singleton.1 he]; exact ⟨u, c4, c1⟩
      · simp [mostSeq]
      · simp [mostSeq]
    have key := seq_calls hE R hf hb hn hres eg hI r g2
    rw [ef]
    simp only [UponC]
    refine key.mono ?_
    rintro e w' ⟨v, rfl, xs, F', m', b, h2, ⟨dn, hperm, rfl⟩, sh, hbox, r2, he, hvb, hsm⟩
    obtain ⟨b', hb', hc⟩ := sh.box
    rw [hbox] at hb'
    injection hb' with hb'
    injection hb' with _ _ hb' _
    injection hb' with hb'
    subst hb'
    rcases hcase with ⟨rfl, rfl, rfl, rfl⟩ | ⟨x, v1, b1, u, rfl, c1, c2, c3, c4, rfl, rfl, rfl⟩
    · have hdn : dn = [] := hperm.eq_nil
      subst hdn
      rcases hc with ⟨_, rfl⟩ | ⟨hne, _⟩
      · obtain ⟨r3, e3⟩ := Rel.back r r2 he sh.old
        refine ⟨v, rfl, hnx v w' _ _ e3 ?_ r3 hsm⟩
        simpa [VRel] using hvb
      · exact (hne rfl).elim
    · have hdn : dn = [(x, v1, b1)] := List.perm_singleton.1 hperm
      subst hdn
      rcases hc with ⟨hem, _⟩ | ⟨_, id2, gen2, ex, q1, rfl, q2, q3⟩
      · simp at hem
      · obtain ⟨r3, e3⟩ := Rel.pick r r2 he sh.old (ex' := ⟨false, te⟩) q1 q2 q3.symm rfl (by simp [idfreeL, c2])
        refine ⟨v, rfl, hnx v w' _ _ e3 ?_ r3 hsm⟩
        simp only [List.map_cons, List.map_nil, List.length_singleton] at hvb
        simp only [VRel] at hvb ⊢
        simpa [AM.pick] using hvb
  · rcases hcase with ⟨rfl, rfl, rfl, rfl⟩ | ⟨x, v, b, u, rfl, _, _, _, _, rfl, rfl, rfl⟩
    · exact ⟨rfl, rfl, rfl⟩
    · cases hq
  · rcases hcase with ⟨rfl, rfl, rfl, rfl⟩ | ⟨x, v, b, u, rfl, _, _, _, _, rfl, rfl, rfl⟩
    · exact Law.refl _
    · exact Law.new _ _

end Go.AM
