/- What the abstract machine does at calls of Go's library that it does not run is what they do. Conditions: none. -/
import Derived.Test.YtobdjegooonklaaGreatAmOv
import Derived.Test.YtobdjegooonklaaGreatAmCall
import Derived.Lib.BytesEntry
set_option linter.unusedVariables false
set_option linter.unusedSimpArgs false
namespace Go.AM
open Go

variable {F : Fz} {m : Mp} {fr : FR} {a : Act} {h : Heap} {w : World} {P : Program}

theorem ovSelf_ok {f : FuncId} (hc : ∀ v w, (callFunc f #[v]).run P w = .ok (.value v) w) : OvOK P f ovSelf := by
  refine ⟨fun args h y h' e ho F m w vs r hv next hn => ?_, fun args h y h' e ho hq => ?_, fun args h y h' e ho => ?_⟩ <;> unfold ovSelf at ho <;> split at ho <;> try (cases ho; done)
  · rename_i x
    simp only [Option.some.injEq, Prod.mk.injEq] at ho
    obtain ⟨rfl, rfl, rfl⟩ := ho
    simp only [VL] at hv
    obtain ⟨v, _, h1, rfl, rfl⟩ := hv
    rw [hc]
    exact hn v w F m (Ext.refl _ _) h1 r (Same.refl _)
  · simp only [Option.some.injEq, Prod.mk.injEq] at ho
    obtain ⟨rfl, rfl, rfl⟩ := ho
    exact ⟨rfl, rfl, rfl⟩
  · simp only [Option.some.injEq, Prod.mk.injEq] at ho
    obtain ⟨rfl, rfl, rfl⟩ := ho
    exact Law.refl h

theorem bytesOf_run (r : Rel F m h w) {x : AV} {b : ByteArray} {v : Value} (hb : strOf h x = some b) (hv : VRel F m x v) : (Extern.Bytes.bytesOf v).run P w = .ok b w := by
  cases hx : elsOf h x with
  | some q =>
    obtain ⟨k, l⟩ := q
    obtain ⟨ad, cap, xs, rfl, hsp, g3, rfl, hm⟩ := strOf_els r hx hb hv
    have := Go.Lib.run_loadBytesX (P := P) (w := w) xs ad .empty (fun j y hj => by
      have hj' := lt_of_getElem? hj
      have := hm j (by omega)
      rw [add_any hsp, this]
      simp [List.getD_eq_getElem?_getD, hj])
    rw [g3] at this
    simp only [Extern.Bytes.bytesOf]
    rw [this]
    congr 1
    apply ByteArray.ext
    simp [strOfNums, Lib.bytesOf]
  | none =>
    cases x with
    | v y =>
      simp only [VRel] at hv
      obtain ⟨_, rfl⟩ := hv
      unfold strOf at hb
      split at hb
      · rename_i heq
        injection heq with heq
        subst heq
        injection hb with hb
        subst hb
        rfl
      · rename_i s0 heq
        injection heq with heq
        subst heq
        injection hb with hb
        subst hb
        rfl
      · simp [hx] at hb
    | _ => simp [strOf, hx] at hb

theorem ovBytesCompare_ok {f : FuncId} (hc : ∀ v u w, (callFunc f #[v, u]).run P w = (do pure (.value (← Extern.BytealgCompare.compare #[v, u])) : Sem Next).run P w) : OvOK P f ovBytesCompare := by
  refine ⟨fun args h y h' e ho F m w vs r hv next hn => ?_, fun args h y h' e ho hq => ?_, fun args h y h' e ho => ?_⟩ <;> unfold ovBytesCompare at ho <;> split at ho <;> try (cases ho; done)
  · rename_i x z
    split at ho
    · rename_i s t h1 h2
      simp only [Option.some.injEq, Prod.mk.injEq] at ho
      obtain ⟨rfl, rfl, rfl⟩ := ho
      simp only [VL] at hv
      obtain ⟨v, _, g1, ⟨u, _, g2, rfl, rfl⟩, rfl⟩ := hv
      have b1 := bytesOf_run (P := P) r h1 g1
      have b2 := bytesOf_run (P := P) r h2 g2
      have hcm : (Extern.BytealgCompare.compare #[v, u]).run P w = .ok (goInt (Extern.BytealgCompare.cmp s t)) w := by
        show (do pure (goInt (Extern.BytealgCompare.cmp (← Extern.Bytes.bytesOf v) (← Extern.Bytes.bytesOf u))) : Sem Value).run P w = _
        simp [-bind_pure_comp, b1, b2]
      have e : (callFunc f [v, u].toArray).run P w = .ok (.value (goInt (Extern.BytealgCompare.cmp s t))) w := by
        show (callFunc f #[v, u]).run P w = _
        rw [hc]
        simp [-bind_pure_comp, hcm]
      rw [e]
      exact hn _ w F m (Ext.refl _ _) (by simp [VRel, free, goInt]) r (Same.refl _)
    · cases ho
  · split at ho
    · simp only [Option.some.injEq, Prod.mk.injEq] at ho
      obtain ⟨rfl, rfl, rfl⟩ := ho
      exact ⟨rfl, rfl, rfl⟩
    · cases ho
  · split at ho
    · simp only [Option.some.injEq, Prod.mk.injEq] at ho
      obtain ⟨rfl, rfl, rfl⟩ := ho
      exact Law.refl h
    · cases ho

end Go.AM
