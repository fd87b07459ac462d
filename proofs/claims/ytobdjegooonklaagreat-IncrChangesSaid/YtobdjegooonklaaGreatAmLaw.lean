/- What a run of the abstract machine leaves alone. Conditions: none. -/
import Derived.Test.YtobdjegooonklaaGreatAmDraw
set_option linter.unusedVariables false
set_option linter.unusedSimpArgs false
namespace Go.AM
open Go

variable {fr : FR} {h : Heap} {P : Program}

mutual
/-- Every id of the heap that stands in it is below n. -/
def idlt (n : Nat) : AV → Prop
  | .v _ | .any => True
  | .agg l | .tup l | .lit _ _ l => idltL n l
  | .rop x => idlt n x
  | .fn _ p q => idltL n p ∧ idltL n q
  | .sl id .. | .isl id .. | .ptr id .. | .map id => id < n
def idltL (n : Nat) : List AV → Prop
  | [] => True
  | x :: l => idlt n x ∧ idltL n l
end

mutual
theorem idfree_lt (n : Nat) : ∀ (x : AV), idfree x = true → idlt n x
  | .v _, _ | .any, _ => by simp only [idlt]
  | .agg l, h => by simp only [idfree] at h; simp only [idlt]; exact idfreeL_lt n l h
  | .tup l, h => by simp only [idfree] at h; simp only [idlt]; exact idfreeL_lt n l h
  | .lit _ _ l, h => by simp only [idfree] at h; simp only [idlt]; exact idfreeL_lt n l h
  | .rop x, h => by simp only [idfree] at h; simp only [idlt]; exact idfree_lt n x h
  | .fn _ p q, h => by simp only [idfree, Bool.and_eq_true] at h; simp only [idlt]; exact ⟨idfreeL_lt n p h.1, idfreeL_lt n q h.2⟩
  | .sl .., h | .isl .., h | .ptr .., h | .map _, h => by simp [idfree] at h
theorem idfreeL_lt (n : Nat) : ∀ (l : List AV), idfreeL l = true → idltL n l
  | [], _ => by simp only [idltL]
  | x :: l, h => by simp only [idfreeL, Bool.and_eq_true] at h; simp only [idltL]; exact ⟨idfree_lt n x h.1, idfreeL_lt n l h.2⟩
end

mutual
theorem toV_lt (n : Nat) : ∀ (x : AV) (v : Value), toV x = some v → idlt n x
  | .v _, _, _ => by simp only [idlt]
  | .agg l, v, h => by
    simp only [toV] at h
    cases hs : toVs l with
    | none => simp [hs] at h
    | some cs => simp only [idlt]; exact toVs_lt n l cs hs
  | .tup _, _, h | .lit .., _, h | .sl .., _, h | .isl .., _, h | .ptr .., _, h | .rop _, _, h | .map _, _, h | .fn .., _, h | .any, _, h => by simp [toV] at h
theorem toVs_lt (n : Nat) : ∀ (l : List AV) (cs : List Value), toVs l = some cs → idltL n l
  | [], _, _ => by simp only [idltL]
  | x :: l, cs, h => by
    simp only [toVs] at h
    cases hx : toV x with
    | none => simp [hx] at h
    | some v =>
      cases hl : toVs l with
      | none => simp [hx, hl] at h
      | some ds => simp only [idltL]; exact ⟨toV_lt n x v hx, toVs_lt n l ds hl⟩
end

theorem idltL_iff {n : Nat} : ∀ {l : List AV}, idltL n l ↔ ∀ x ∈ l, idlt n x
  | [] => by simp [idltL]
  | x :: l => by simp [idltL, idltL_iff (l := l)]

theorem idltL_append {n : Nat} {l r : List AV} (h1 : idltL n l) (h2 : idltL n r) : idltL n (l ++ r) := by
  rw [idltL_iff] at *
  intro x hx
  rcases List.mem_append.1 hx with h | h
  · exact h1 x h
  · exact h2 x h

theorem idltL_take {n k : Nat} {l : List AV} (h1 : idltL n l) : idltL n (l.take k) := by
  rw [idltL_iff] at *
  exact fun x hx => h1 x (List.mem_of_mem_take hx)

theorem idltL_drop {n k : Nat} {l : List AV} (h1 : idltL n l) : idltL n (l.drop k) := by
  rw [idltL_iff] at *
  exact fun x hx => h1 x (List.mem_of_mem_drop hx)

theorem idltL_set {n i : Nat} {l : List AV} {x : AV} (h1 : idltL n l) (h2 : idlt n x) : idltL n (l.set i x) := by
  rw [idltL_iff] at *
  intro y hy
  rcases List.mem_or_eq_of_mem_set hy with h | h
  · exact h1 y h
  · exact h ▸ h2

theorem idltL_replicate {n k : Nat} {x : AV} (h2 : idlt n x) : idltL n (List.replicate k x) := by
  rw [idltL_iff]
  intro y hy
  rw [List.eq_of_mem_replicate hy]
  exact h2

theorem idltL_setFrom {n : Nat} : ∀ {ys l : List AV} {i : Nat}, idltL n l → idltL n ys → idltL n (setFrom l i ys)
  | [], l, i, h1, _ => by simpa [setFrom] using h1
  | y :: ys, l, i, h1, h2 => by
    simp only [idltL] at h2
    simp only [setFrom]
    exact idltL_setFrom (idltL_set h1 h2.1) h2.2

mutual
theorem put_lt (n : Nat) : ∀ (z : AV) (p : List Nat) (o : Nat) (x z' : AV), put z p o x = some z' → idlt n z → idlt n x → idlt n z'
  | z, [], o, x, z', h, hz, hx => by
    unfold put at h
    cases hb : (Nat.beq o 0 && Nat.beq (leafs z) (leafs x)) with
    | false => simp [hb] at h
    | true => simp [hb] at h; exact h ▸ hx
  | .agg l, f :: p, o, x, z', h, hz, hx => by
    simp only [put] at h
    split at h
    · rename_i l' hl
      simp only [Option.some.injEq] at h
      subst h
      simp only [idlt] at hz ⊢
      exact putL_lt n l f p o x l' hl hz hx
    · cases h
  | .v _, _ :: _, _, _, _, h, _, _ | .tup _, _ :: _, _, _, _, h, _, _ | .lit .., _ :: _, _, _, _, h, _, _ | .sl .., _ :: _, _, _, _, h, _, _ | .isl .., _ :: _, _, _, _, h, _, _
  | .ptr .., _ :: _, _, _, _, h, _, _ | .rop _, _ :: _, _, _, _, h, _, _ | .map _, _ :: _, _, _, _, h, _, _ | .fn .., _ :: _, _, _, _, h, _, _ | .any, _ :: _, _, _, _, h, _, _ => by simp [put] at h
theorem putL_lt (n : Nat) : ∀ (l : List AV) (f : Nat) (p : List Nat) (o : Nat) (x : AV) (l' : List AV), putL l f p o x = some l' → idltL n l → idlt n x → idltL n l'
  | [], _, _, _, _, _, h, _, _ => by simp [putL] at h
  | y :: l, 0, p, o, x, l', h, hl, hx => by
    simp only [putL] at h
    simp only [idltL] at hl
    split at h
    · rename_i y' hy
      simp only [Option.some.injEq] at h
      subst h
      simp only [idltL]
      exact ⟨put_lt n y p o x y' hy hl.1 hx, hl.2⟩
    · cases h
  | y :: l, f + 1, p, o, x, l', h, hl, hx => by
    simp only [putL] at h
    simp only [idltL] at hl
    cases hb : Nat.ble (leafs y) o with
    | false => simp [hb] at h
    | true =>
      simp only [hb, cond_true] at h
      split at h
      · rename_i l2 h2
        simp only [Option.some.injEq] at h
        subst h
        simp only [idltL]
        exact ⟨hl.1, putL_lt n l f p _ x l2 h2 hl.2 hx⟩
      · cases h
end

mutual
theorem nav_lt (n : Nat) : ∀ (z : AV) (p : List Nat) (o : Nat) (x : AV), nav z p o = some x → idlt n z → idlt n x
  | z, [], o, x, h, hz => by
    unfold nav at h
    cases hb : Nat.beq o 0 with
    | false => simp [hb] at h
    | true => simp [hb] at h; exact h ▸ hz
  | .agg l, f :: p, o, x, h, hz => by
    simp only [nav] at h
    simp only [idlt] at hz
    exact navL_lt n l f p o x h hz
  | .v _, _ :: _, _, _, h, _ | .tup _, _ :: _, _, _, h, _ | .lit .., _ :: _, _, _, h, _ | .sl .., _ :: _, _, _, h, _ | .isl .., _ :: _, _, _, h, _
  | .ptr .., _ :: _, _, _, h, _ | .rop _, _ :: _, _, _, h, _ | .map _, _ :: _, _, _, h, _ | .fn .., _ :: _, _, _, h, _ | .any, _ :: _, _, _, h, _ => by simp [nav] at h
theorem navL_lt (n : Nat) : ∀ (l : List AV) (f : Nat) (p : List Nat) (o : Nat) (x : AV), navL l f p o = some x → idltL n l → idlt n x
  | [], _, _, _, _, h, _ => by simp [navL] at h
  | y :: l, 0, p, o, x, h, hl => by
    simp only [navL] at h
    simp only [idltL] at hl
    exact nav_lt n y p o x h hl.1
  | y :: l, f + 1, p, o, x, h, hl => by
    simp only [navL] at h
    simp only [idltL] at hl
    cases hb : Nat.ble (leafs y) o with
    | false => simp [hb] at h
    | true =>
      simp only [hb, cond_true] at h
      exact navL_lt n l f p _ x h hl.2
end

def rowLt (n : Nat) : Row → Prop
  | .row _ _ els _ => idltL n els
  | .map es _ => ∀ e ∈ es, idlt n e.1 ∧ idlt n e.2.1
  | .dead => True

structure Law (h h' : Heap) (ds ls : List Nat) : Prop where
  len : h.length ≤ h'.length
  ds : ∀ id, id < h.length → id ∉ ds → h'[id]? = h[id]?
  ls : ∀ n id r r', id ∉ ls → h[id]? = some r → h'[id]? = some r' → rowLt n r → rowLt n r'

theorem Law.refl (h : Heap) : Law h h [] [] := ⟨Nat.le_refl _, fun _ _ _ => rfl, fun n id r r' _ h1 h2 h3 => by rw [h1] at h2; injection h2 with h2; exact h2 ▸ h3⟩

theorem Law.new (h : Heap) (r : Row) : Law h (h ++ [r]) [] [] := by
  refine ⟨by simp, fun id hi _ => by rw [List.getElem?_append_left hi], fun n id r1 r2 _ h1 h2 h3 => ?_⟩
  have hi := (List.getElem?_eq_some_iff.1 h1).1
  rw [List.getElem?_append_left hi, h1] at h2
  injection h2 with h2
  exact h2 ▸ h3

theorem Law.set {h : Heap} {id : Nat} {r r' : Row} {b : Bool} (hr : h[id]? = some r) (hb : b = false → ∀ n, rowLt n r → rowLt n r') : Law h (h.set id r') [id] (bif b then [id] else []) := by
  have hi := (List.getElem?_eq_some_iff.1 hr).1
  refine ⟨by simp, fun j hj hn => ?_, fun n j r1 r2 hn h1 h2 h3 => ?_⟩
  · rw [List.getElem?_set_ne]
    intro e
    exact hn (by simp [e])
  · by_cases e : id = j
    · subst e
      rw [List.getElem?_set_self hi] at h2
      rw [hr] at h1
      injection h1 with h1
      injection h2 with h2
      subst h1; subst h2
      cases b with
      | false => exact hb rfl n h3
      | true => exact (hn (by simp)).elim
    · rw [List.getElem?_set_ne e, h1] at h2
      injection h2 with h2
      exact h2 ▸ h3

def LawS (h h' : Heap) : Option (Nat × Bool) → Prop
  | none => Law h h' [] []
  | some (id, b) => Law h h' [id] (bif b then [id] else [])

theorem outOf_law {y : AV} {h' : Heap} {s : Option (Nat × Bool)} {c : Cl} {x : Out} (e : outOf y h' s c = x) (l : LawS h h' s) : Law h x.h x.ds x.ls := by
  subst e
  cases s with
  | none => exact l
  | some p => exact l

/-! ### The operations that call nothing -/
def LawR (h : Heap) (r : Option (AV × Heap × Option (Nat × Bool))) : Prop := ∀ y h' s, r = some (y, h', s) → LawS h h' s
theorem lawR_none : LawR h none := fun _ _ _ e => by cases e
theorem lawR_same {y : AV} : LawR h (some (y, h, none)) := fun _ _ _ e => by
  simp only [Option.some.injEq, Prod.mk.injEq] at e
  obtain ⟨rfl, rfl, rfl⟩ := e
  exact Law.refl h
theorem lawR_new {y : AV} {r : Row} : LawR h (some (y, h ++ [r], none)) := fun _ _ _ e => by
  simp only [Option.some.injEq, Prod.mk.injEq] at e
  obtain ⟨rfl, rfl, rfl⟩ := e
  exact Law.new h r
theorem lawR_newRow {y : AV} {k : Nat} {els : List AV} {ex : Tag} : LawR h (some (y, newRow h k els ex, none)) := lawR_new
theorem lawR_cond {b : Bool} {r r' : Option (AV × Heap × Option (Nat × Bool))} (h1 : LawR h r) (h2 : LawR h r') : LawR h (bif b then r else r') := by
  cases b
  · exact h2
  · exact h1

theorem storeE_law {t : TypeId} {a x : AV} {h' : Heap} {id : Nat} (hs : storeE P h t a x = some (h', id)) : Law h h' [id] (bif !idfree x then [id] else []) := by
  unfold storeE at hs
  split at hs
  · rename_i id' gen i p o n hn
    split at hs
    · rename_i k g els ex hr
      cases hb : (Nat.beq g gen && Nat.beq (leafs x) n && !isTupA x) with
      | false => simp [hb] at hs
      | true =>
        simp only [hb, cond_true] at hs
        split at hs
        · rename_i z hz
          split at hs
          · rename_i z' hp
            simp only [Option.some.injEq, Prod.mk.injEq] at hs
            obtain ⟨rfl, rfl⟩ := hs
            refine Law.set hr fun hf n hl => ?_
            have hf' : idfree x = true := by simpa using hf
            simp only [rowLt] at hl ⊢
            exact idltL_set hl (put_lt n _ _ _ _ _ hp (idltL_iff.1 hl _ (List.mem_of_getElem? hz)) (idfree_lt n x hf'))
          · cases hs
        · cases hs
    · cases hs
  · cases hs

theorem opE_law {E : Env} {f : FuncId} {o : Oper} : LawR h (opE E f fr h o) := by
  obtain ⟨dst, op, type, pos, after, guard⟩ := o
  cases op
  case store t x z =>
    intro y h' s ho
    simp only [opE] at ho
    split at ho
    · split at ho
      · rename_i h1 id hs
        simp only [Option.some.injEq, Prod.mk.injEq] at ho
        obtain ⟨rfl, rfl, rfl⟩ := ho
        exact storeE_law hs
      · cases ho
    · cases ho
  all_goals
    simp only [opE]
    repeat' (first | exact lawR_none | exact lawR_same | exact lawR_newRow | exact lawR_new | apply lawR_cond | contradiction | split)

end Go.AM

set_option linter.unusedVariables false
set_option linter.unusedSimpArgs false
namespace Go.AM
open Go

variable {fr : FR} {h : Heap} {P : Program}

def LawB (h : Heap) (r : OpRes) : Prop := ∀ y h' s c, r = some (y, h', s, c) → LawS h h' s
theorem lawB_none : LawB h none := fun _ _ _ _ e => by cases e
theorem lawB_mk {y : AV} {h' : Heap} {s : Option (Nat × Bool)} {c : Cl} (l : LawS h h' s) : LawB h (some (y, h', s, c)) := fun _ _ _ _ e => by
  simp only [Option.some.injEq, Prod.mk.injEq] at e
  obtain ⟨rfl, rfl, rfl, rfl⟩ := e
  exact l
theorem lawB_same {y : AV} {c : Cl} : LawB h (some (y, h, none, c)) := lawB_mk (Law.refl h)
theorem lawB_new {y : AV} {c : Cl} {k : Nat} {els : List AV} {ex : Tag} : LawB h (some (y, newRow h k els ex, none, c)) := lawB_mk (Law.new h _)
theorem lawB_cond {b : Bool} {r r' : OpRes} (h1 : LawB h r) (h2 : LawB h r') : LawB h (bif b then r else r') := by
  cases b
  · exact h2
  · exact h1

theorem lawB_row {y : AV} {c : Cl} {id k gen : Nat} {els ys : List AV} {ex : Tag} (hr : h[id]? = some (.row k gen els ex)) {k' gen' : Nat} {els' : List AV} {ex' : Tag}
    (hl : ∀ n, idltL n ys → idltL n els → idltL n els') : LawB h (some (y, h.set id (.row k' gen' els' ex'), some (id, !idfreeL ys), c)) :=
  lawB_mk (Law.set hr fun hf n hn => by
    have hf' : idfreeL ys = true := by simpa using hf
    simp only [rowLt] at hn ⊢
    exact hl n (idfreeL_lt n ys hf') hn)

theorem appendTo_law {e : TypeId} {k : Nat} {s : AV} {xs : List AV} : LawB h (appendTo h e k s xs) := by
  unfold appendTo
  split
  · exact lawB_cond lawB_same lawB_new
  · exact lawB_cond lawB_same (lawB_cond lawB_new lawB_none)
  · split
    · rename_i hr
      refine lawB_cond (lawB_cond ?_ (lawB_cond ?_ lawB_none)) lawB_none
      · exact lawB_row hr fun n h1 h2 => idltL_setFrom h2 h1
      · exact lawB_row hr fun n h1 h2 => idltL_append (idltL_take h2) h1
    · exact lawB_none
  · exact lawB_none

theorem appendE_law {Z : List (TypeId × AV)} {ts : Array TypeId} {s x : AV} : LawB h (appendE P Z h ts s x) := by
  unfold appendE
  repeat' (first | exact lawB_none | exact appendTo_law | apply lawB_cond | split)

theorem copyE_law {ts : Array TypeId} {s x : AV} : LawB h (copyE P h ts s x) := by
  unfold copyE
  split
  · split
    · split
      · split
        · dsimp only
          refine lawB_cond lawB_same ?_
          split
          · split
            · rename_i hr
              refine lawB_cond ?_ lawB_none
              exact lawB_row hr fun n h1 h2 => idltL_setFrom h2 h1
            · exact lawB_none
          · split
            · rename_i hr
              refine lawB_cond ?_ lawB_none
              split
              · rename_i z hz
                split
                · rename_i l hn
                  refine lawB_cond ?_ lawB_none
                  split
                  · rename_i z' hp
                    refine lawB_row hr fun n h1 h2 => ?_
                    have hz' := idltL_iff.1 h2 _ (List.mem_of_getElem? hz)
                    have hl := nav_lt n _ _ _ _ hn hz'
                    simp only [idlt] at hl
                    refine idltL_set h2 (put_lt n _ _ _ _ _ hp hz' ?_)
                    simp only [idlt]
                    exact idltL_setFrom hl h1
                  · exact lawB_none
                · exact lawB_none
              · exact lawB_none
            · exact lawB_none
          · exact lawB_none
        · exact lawB_none
      · exact lawB_none
    · exact lawB_none
  · exact lawB_none

theorem copyS_law {ts : Array TypeId} {s x : AV} : LawB h (copyS P h ts s x) := by
  unfold copyS
  split
  · split
    · split
      · split
        · rename_i hr hr2
          dsimp only
          refine lawB_cond ?_ lawB_none
          exact lawB_row hr fun n h1 h2 => idltL_append (idltL_take h2) (idltL_append h1 (idltL_drop h2))
        · exact lawB_none
      · exact lawB_none
    · exact lawB_none
  · exact lawB_none

theorem cpO_law {a b : OpRes} (h1 : LawB h a) (h2 : LawB h b) : LawB h (cpO a b) := by
  cases a with
  | none => exact h2
  | some q => exact h1

theorem clearE_law {E : Env} (hE : E.ZerosOK) {ts : Array TypeId} {x : AV} : LawB h (clearE E h ts x) := by
  unfold clearE
  split
  · split
    · exact lawB_same
    · split
      · rename_i k g els ex z hr hz
        refine lawB_cond ?_ lawB_none
        refine lawB_mk ?_
        refine Law.set (b := false) hr fun _ n hl => ?_
        simp only [rowLt] at hl ⊢
        obtain ⟨i, v, _, _, hv⟩ := hE _ _ hz
        exact idltL_setFrom hl (idltL_replicate (toV_lt n _ _ hv))
      · exact lawB_none
    · exact lawB_none
  · exact lawB_none

theorem deleteE_law {E : Env} {ts : Array TypeId} {m k : AV} : LawB h (deleteE E h ts m k) := by
  unfold deleteE
  split
  · split
    · split
      · rename_i es c hr
        split
        · refine lawB_mk ?_
          refine Law.set (b := false) hr fun _ n hl => ?_
          simp only [rowLt] at hl ⊢
          exact fun e he => hl e (List.mem_of_mem_eraseIdx he)
        · exact lawB_same
        · exact lawB_none
      · exact lawB_none
    · exact lawB_none
  · exact lawB_none

theorem lenE_law {ts : Array TypeId} {x : AV} : LawB h (lenE P h ts x) := by
  unfold lenE
  repeat' (first | exact lawB_none | exact lawB_same | apply lawB_cond | split)

theorem capE_law {ts : Array TypeId} {x : AV} : LawB h (capE P h ts x) := by
  unfold capE
  repeat' (first | exact lawB_none | exact lawB_same | apply lawB_cond | split)

theorem sliceDataE_law {x : AV} : LawB h (sliceDataE h x) := by
  unfold sliceDataE
  repeat' (first | exact lawB_none | exact lawB_same | apply lawB_cond | split)

theorem unsafeStringE_law {ts : Array TypeId} {x n : AV} : LawB h (unsafeStringE P h ts x n) := by
  unfold unsafeStringE
  split
  · refine lawB_cond ?_ ?_
    · repeat' (first | exact lawB_none | exact lawB_same | split)
    · split
      · split
        · rename_i hr
          split
          · refine lawB_cond ?_ lawB_none
            exact lawB_mk (Law.set (b := false) hr fun _ _ _ => trivial)
          · exact lawB_none
        · exact lawB_none
      · exact lawB_none
  · exact lawB_none

theorem builtinE_law {E : Env} (hE : E.ZerosOK) {b : Builtin} {ts : Array TypeId} {ty : TypeId} {args : List AV} : LawB h (builtinE E h b ts ty args) := by
  unfold builtinE
  dsimp only
  repeat' (first | exact appendE_law | exact cpO_law copyE_law copyS_law | exact lenE_law | exact capE_law | exact clearE_law hE | exact deleteE_law | exact sliceDataE_law | exact unsafeStringE_law | exact lawB_none | exact lawB_same | split)

theorem findE_key {kt : TypeId} {em : Bool} {es : List (AV × AV × Nat)} {k : AV} {r : Option Nat} (hf : findE P kt em es k = some r) (n : Nat) : idlt n k := by
  unfold findE at hf
  split at hf
  · rename_i vs v h1 h2
    exact toV_lt n k v h2
  · cases hf

theorem updateE_law {E : Env} {t : TypeId} {m k x : AV} {h' : Heap} {id : Nat} (hs : updateE E h t m k x = some (h', id)) : Law h h' [id] (bif !idfree x then [id] else []) := by
  unfold updateE at hs
  split at hs
  · split at hs
    · rename_i es c hr
      split at hs
      · rename_i i hf
        have hk := findE_key hf
        split at hs
        · split at hs
          · split at hs
            · simp only [Option.some.injEq, Prod.mk.injEq] at hs
              obtain ⟨rfl, rfl⟩ := hs
              refine Law.set hr fun hb n hl => ?_
              have hf' : idfree x = true := by simpa using hb
              simp only [rowLt] at hl ⊢
              intro e he
              rcases List.mem_or_eq_of_mem_set he with h | h
              · exact hl e h
              · subst h; exact ⟨hk n, idfree_lt n x hf'⟩
            · cases hs
          · cases hs
        · cases hs
      · rename_i hf
        have hk := findE_key hf
        simp only [Option.some.injEq, Prod.mk.injEq] at hs
        obtain ⟨rfl, rfl⟩ := hs
        refine Law.set hr fun hb n hl => ?_
        have hf' : idfree x = true := by simpa using hb
        simp only [rowLt] at hl ⊢
        intro e he
        rcases List.mem_append.1 he with h | h
        · exact hl e h
        · simp only [List.mem_singleton] at h
          subst h; exact ⟨hk n, idfree_lt n x hf'⟩
      · cases hs
    · cases hs
  · cases hs

def LawK (K : CallK) : Prop := ∀ f args h y h' e, K f args h = some (y, h', e) → Law h h' e.ds e.ls

theorem coreO_law {E : Env} {K : CallK} (hE : E.ZerosOK) (hL : LawK K) {f : FuncId} {o : Oper} {x : Out} (ho : coreO E K f o fr h = some x) : Law h x.h x.ds x.ls := by
  unfold coreO at ho
  split at ho
  · split at ho
    · split at ho
      · split at ho
        · rename_i hb
          injection ho with ho
          exact outOf_law ho (builtinE_law hE _ _ _ _ hb)
        · cases ho
      · cases ho
    · split at ho
      · split at ho
        · rename_i hk
          injection ho with ho
          subst ho
          exact hL _ _ _ _ _ _ hk
        · cases ho
      · cases ho
  · split at ho
    · split at ho
      · rename_i hu
        injection ho with ho
        exact outOf_law ho (updateE_law hu)
      · cases ho
    · cases ho
  · split at ho
    · split at ho
      · rename_i hu
        injection ho with ho
        exact outOf_law ho (updateE_law hu)
      · cases ho
    · cases ho
  · split at ho
    · split at ho
      · injection ho with ho
        exact outOf_law ho (Law.refl h)
      · cases ho
    · cases ho
  · split at ho
    · rename_i hp
      injection ho with ho
      exact outOf_law ho (opE_law _ _ _ hp)
    · cases ho
  · split at ho
    · rename_i hp
      injection ho with ho
      exact outOf_law ho (opE_law _ _ _ hp)
    · cases ho

/-! ### A state, since the call began -/
structure LawSt (n0 : Nat) (st st' : St) : Prop where
  len : st.h.length ≤ st'.h.length
  subd : ∀ id, id ∈ st.ds → id ∈ st'.ds
  subl : ∀ id, id ∈ st.ls → id ∈ st'.ls
  ds : ∀ id, id < n0 → id < st.h.length → id ∉ st'.ds → st'.h[id]? = st.h[id]?
  ls : ∀ n id r r', id < n0 → id ∉ st'.ls → st.h[id]? = some r → st'.h[id]? = some r' → rowLt n r → rowLt n r'

theorem LawSt.refl (n0 : Nat) (st : St) : LawSt n0 st st :=
  ⟨Nat.le_refl _, fun _ h => h, fun _ h => h, fun _ _ _ _ => rfl, fun n id r r' _ _ h1 h2 h3 => by rw [h1] at h2; injection h2 with h2; exact h2 ▸ h3⟩

theorem LawSt.trans {n0 : Nat} {a b c : St} (h1 : LawSt n0 a b) (h2 : LawSt n0 b c) : LawSt n0 a c := by
  refine ⟨Nat.le_trans h1.len h2.len, fun id h => h2.subd id (h1.subd id h), fun id h => h2.subl id (h1.subl id h), fun id hi hl hn => ?_, fun n id r r' hi hn hr hr' hl => ?_⟩
  · rw [h2.ds id hi (Nat.lt_of_lt_of_le hl h1.len) hn, h1.ds id hi hl fun h => hn (h2.subd id h)]
  · have hid : id < b.h.length := Nat.lt_of_lt_of_le (List.getElem?_eq_some_iff.1 hr).1 h1.len
    have hb : b.h[id]? = some b.h[id] := List.getElem?_eq_getElem hid
    exact h2.ls n id _ r' hi hn hb hr' (h1.ls n id r _ hi (fun h => hn (h2.subl id h)) hr hb hl)

theorem mem_ins {a b : Nat} {l : List Nat} : b ∈ ins a l ↔ b = a ∨ b ∈ l := by
  unfold ins
  cases he : l.elem a with
  | true =>
    have : a ∈ l := by simpa using he
    simp only [cond_true]
    constructor
    · exact .inr
    · rintro (rfl | h)
      · exact this
      · exact h
  | false => simp

theorem mem_mergeLt {n0 b : Nat} (hb : b < n0) : ∀ {r l : List Nat}, b ∈ mergeLt n0 r l ↔ b ∈ r ∨ b ∈ l
  | [], l => by simp [mergeLt]
  | a :: r, l => by
    simp only [mergeLt]
    rw [mem_mergeLt hb]
    unfold insLt
    cases ha : Nat.blt a n0 with
    | true =>
      simp only [cond_true, mem_ins, List.mem_cons]
      constructor
      · rintro (h | rfl | h)
        · exact .inl (.inr h)
        · exact .inl (.inl rfl)
        · exact .inr h
      · rintro ((rfl | h) | h)
        · exact .inr (.inl rfl)
        · exact .inl h
        · exact .inr (.inr h)
    | false =>
      have hne : b ≠ a := by
        rintro rfl
        have : Nat.blt b n0 = true := by simpa [Nat.blt_eq] using hb
        rw [this] at ha; cases ha
      simp only [cond_false, List.mem_cons]
      constructor
      · rintro (h | h)
        · exact .inl (.inr h)
        · exact .inr h
      · rintro ((rfl | h) | h)
        · exact (hne rfl).elim
        · exact .inl h
        · exact .inr h

theorem mergeLt_sub {n0 b : Nat} : ∀ {r l : List Nat}, b ∈ l → b ∈ mergeLt n0 r l
  | [], l, h => h
  | a :: r, l, h => by
    simp only [mergeLt]
    refine mergeLt_sub ?_
    unfold insLt
    cases Nat.blt a n0 with
    | true => simp only [cond_true, mem_ins]; exact .inr h
    | false => exact h

theorem stepO_law {E : Env} {K : CallK} (hE : E.ZerosOK) (hL : LawK K) {f : FuncId} {nt n0 : Nat} {ops : Array Oper} {o : Oper} {st st' : St} {c : Cl} (hs : stepO E K f nt n0 ops o st = some (st', c)) : LawSt n0 st st' := by
  unfold stepO at hs
  split at hs
  · split at hs
    · simp only [Option.some.injEq, Prod.mk.injEq] at hs
      obtain ⟨rfl, rfl⟩ := hs
      have := LawSt.refl n0 st
      exact ⟨this.len, this.subd, this.subl, this.ds, this.ls⟩
    · cases hs
  · split at hs
    · rename_i x hx
      have l := coreO_law hE hL hx
      split at hs
      · simp only [Option.some.injEq, Prod.mk.injEq] at hs
        obtain ⟨rfl, rfl⟩ := hs
        refine ⟨l.len, fun id h => mergeLt_sub h, fun id h => mergeLt_sub h, fun id hi hl hn => ?_, fun n id r r' hi hn h1 h2 h3 => ?_⟩
        · exact l.ds id hl fun h => hn ((mem_mergeLt hi).2 (.inl h))
        · exact l.ls n id r r' (fun h => hn ((mem_mergeLt hi).2 (.inl h))) h1 h2 h3
      · cases hs
    · cases hs
  · cases hs

theorem runOps_law {E : Env} {K : CallK} (hE : E.ZerosOK) (hL : LawK K) {f : FuncId} {nt n0 : Nat} {ops : Array Oper} {st' : St} {cs' : List Cl} : ∀ (os : List Oper) (st : St) (cs : List Cl), runOps E K f nt n0 ops os st cs = some (st', cs') → LawSt n0 st st'
  | [], st, cs, h => by
    simp only [runOps, Option.some.injEq, Prod.mk.injEq] at h
    obtain ⟨rfl, rfl⟩ := h
    exact LawSt.refl n0 st
  | o :: os, st, cs, h => by
    simp only [runOps] at h
    split at h
    · rename_i st1 c hs
      exact (stepO_law hE hL hs).trans (runOps_law hE hL os st1 _ h)
    · cases h

/-- What is asked of a run. -/
def LawX (n0 : Nat) (st : St) (r : Option (Ex × St)) : Prop := ∀ ex st', r = some (ex, st') → LawSt n0 st st'

theorem maskS_law {n0 : Nat} {st st' : St} {l : List Nat} (h : LawSt n0 (maskS l st) st') : LawSt n0 st st' := ⟨h.len, h.subd, h.subl, h.ds, h.ls⟩

theorem loopN_law {n0 : Nat} {body : St → Option (Ex × St)} {l : List Nat} (hb : ∀ st, LawX n0 st (body st)) : ∀ (n : Nat) (st : St), LawX n0 st (loopN body l n st)
  | 0, st, ex, st', h => by simp [loopN] at h
  | n + 1, st, ex, st', h => by
    simp only [loopN] at h
    split at h
    · rename_i st1 h1
      exact (maskS_law (hb _ _ _ h1)).trans (loopN_law hb n st1 _ _ h)
    · exact maskS_law (hb _ _ _ h)

theorem scopeN_law {n0 : Nat} {from_ : Nat → St → Option (Ex × St)} {has : Nat → Bool} {l : List Nat} (hf : ∀ g st, LawX n0 st (from_ g st)) {st0 : St} : ∀ (n : Nat) (r : Option (Ex × St)), LawX n0 st0 r → LawX n0 st0 (scopeN from_ has l n r)
  | 0, r, hr, ex, st', h => by simp [scopeN] at h
  | n + 1, r, hr, ex, st', h => by
    simp only [scopeN] at h
    split at h
    · rename_i g st1
      cases hg : has g with
      | true =>
        simp only [hg, cond_true] at h
        exact scopeN_law hf n _ (fun ex2 st2 h2 => (hr _ _ rfl).trans (maskS_law (hf g _ _ _ h2))) _ _ h
      | false =>
        simp only [hg, cond_false] at h
        exact hr _ _ h
    · exact hr _ _ h

theorem lawX_then {n0 : Nat} {st : St} {r1 : Option (Ex × St)} {k : St → Option (Ex × St)} (h1 : LawX n0 st r1) (h2 : ∀ st1, LawX n0 st1 (k st1)) :
    LawX n0 st (match (generalizing := false) r1 with | some (.normal, st') => k st' | r => r) := by
  intro ex st' h
  split at h
  · rename_i st1
    exact (h1 _ _ rfl).trans (h2 st1 _ _ h)
  · exact h1 _ _ h

theorem exec_law {E : Env} {K : CallK} (hE : E.ZerosOK) (hL : LawK K) {nl : Nat} {f : FuncId} {nt n0 : Nat} : ∀ (c : Code), (∀ st, LawX n0 st (exec E K nl f nt n0 c st)) ∧ ∀ l st, LawX n0 st (execFrom E K nl f nt n0 c l st) := by
  intro c
  have same : ∀ st ex, LawX n0 st (some (ex, st)) := fun st ex ex' st' h => by
    simp only [Option.some.injEq, Prod.mk.injEq] at h
    exact h.2 ▸ LawSt.refl n0 st
  have no : ∀ st, LawX n0 st none := fun st ex' st' h => by cases h
  induction c with
  | skip => exact ⟨fun st => by simp only [exec]; exact same st _, fun l st => by simp only [execFrom]; exact no st⟩
  | label l' =>
    refine ⟨fun st => by simp only [exec]; exact same st _, fun l st => ?_⟩
    simp only [execFrom]
    cases Nat.beq l' l
    · exact no st
    · exact same st _
  | region id ops draw =>
    refine ⟨fun st ex st' h => ?_, fun l st => by simp only [execFrom]; exact no st⟩
    simp only [exec] at h
    split at h
    · rename_i st1 cs hr
      have l := runOps_law hE hL _ _ _ hr
      cases draw with
      | true =>
        simp only [cond_true] at h
        cases hp : pairsOK cs (E.pairs f id) with
        | false => simp [hp] at h
        | true =>
          simp only [hp, cond_true, Option.some.injEq, Prod.mk.injEq] at h
          exact h.2 ▸ l
      | false =>
        simp only [cond_false, Option.some.injEq, Prod.mk.injEq] at h
        exact h.2 ▸ l
    · cases h
  | seq x y ihx ihy =>
    refine ⟨fun st => ?_, fun l st => ?_⟩
    · simp only [exec]
      exact lawX_then (ihx.1 st) ihy.1
    · simp only [execFrom]
      cases hasLabel x l with
      | true => exact lawX_then (ihx.2 l st) ihy.1
      | false => exact ihy.2 l st
  | cond c x y ihx ihy =>
    refine ⟨fun st ex st' h => ?_, fun l st => by simp only [execFrom]; exact no st⟩
    simp only [exec] at h
    split at h
    · rename_i t ht
      cases t with
      | true => exact ihx.1 st _ _ h
      | false => exact ihy.1 st _ _ h
    · cases h
  | block id x ih =>
    refine ⟨fun st ex st' h => ?_, fun l st => by simp only [execFrom]; exact no st⟩
    simp only [exec] at h
    split at h
    · rename_i i st1 h1
      have := ih.1 st _ _ h1
      cases hb : Nat.beq i id with
      | true =>
        simp only [hb, cond_true, Option.some.injEq, Prod.mk.injEq] at h
        exact h.2 ▸ this
      | false =>
        simp only [hb, cond_false, Option.some.injEq, Prod.mk.injEq] at h
        exact h.2 ▸ this
    · exact ih.1 st _ _ h
  | loop x ih =>
    refine ⟨fun st => ?_, fun l st => by simp only [execFrom]; exact no st⟩
    simp only [exec]
    exact loopN_law ih.1 nl st
  | exit id => exact ⟨fun st => by simp only [exec]; exact same st _, fun l st => by simp only [execFrom]; exact no st⟩
  | goto g => exact ⟨fun st => by simp only [exec]; exact same st _, fun l st => by simp only [execFrom]; exact no st⟩
  | ret => exact ⟨fun st => by simp only [exec]; exact same st _, fun l st => by simp only [execFrom]; exact no st⟩
  | scope x ih =>
    refine ⟨fun st => ?_, fun l st => by simp only [execFrom]; exact no st⟩
    simp only [exec]
    exact scopeN_law ih.2 nl _ (ih.1 st)
  | rangeFunc g ps x y => exact ⟨fun st => by simp only [exec]; exact no st, fun l st => by simp only [execFrom]; exact no st⟩
  | refuse why => exact ⟨fun st => by simp only [exec]; exact no st, fun l st => by simp only [execFrom]; exact no st⟩

end Go.AM

set_option linter.unusedVariables false
set_option linter.unusedSimpArgs false
namespace Go.AM
open Go

variable {F F' : Fz} {m m' : Mp} {fr : FR} {a : Act} {h : Heap} {w : World} {P : Program}

/-! ### A value told of other memory -/
structure Move (n : Nat) (F : Fz) (m : Mp) (F' : Fz) (m' : Mp) : Prop where
  fz : ∀ b c e f, F b = some (.cells c e f) → F' b = some (.cells c e f)
  row : ∀ id gen x, id < n → m.row id gen = some x → m'.row id gen = some x
  map : ∀ id x, id < n → m.map id = some x → m'.map id = some x

theorem FC.move {a : Addr} {cs : List Value} {n : Nat} (mv : Move n F m F' m') (h : FC F a cs) : FC F' a cs := fun j v hj => by
  obtain ⟨c, e, fr, h1, h2⟩ := h j v hj
  exact ⟨c, e, fr, mv.fz _ _ _ _ h1, h2⟩

mutual
theorem VRel.move {n : Nat} (mv : Move n F m F' m') : ∀ (x : AV) (y : Value), idlt n x → VRel F m x y → VRel F' m' x y
  | .v _, _, _, h => by simpa [VRel] using h
  | .agg l, y, hl, h => by
    simp only [VRel] at h ⊢
    simp only [idlt] at hl
    obtain ⟨cs, h1, h2⟩ := h
    exact ⟨cs, CL.move mv l cs hl h1, h2⟩
  | .tup l, y, hl, h => by
    simp only [VRel] at h ⊢
    simp only [idlt] at hl
    obtain ⟨ys, h1, h2⟩ := h
    exact ⟨ys, VL.move mv l ys hl h1, h2⟩
  | .lit k full l, y, hl, h => by
    simp only [VRel] at h ⊢
    simp only [idlt] at hl
    obtain ⟨a, cap, cs, h1, h2, h3, h4⟩ := h
    exact ⟨a, cap, cs, CL.move mv l cs hl h1, h2, h3.move mv, h4⟩
  | .sl id gen off len, y, hl, h => by
    simp only [VRel] at h ⊢
    simp only [idlt] at hl
    obtain ⟨g, C, k, a, h1, h2⟩ := h
    exact ⟨g, C, k, a, mv.row _ _ _ hl h1, h2⟩
  | .isl id gen i p o k off len n, y, hl, h => by
    simp only [VRel] at h ⊢
    simp only [idlt] at hl
    obtain ⟨g, C, K, a, h1, h2⟩ := h
    exact ⟨g, C, K, a, mv.row _ _ _ hl h1, h2⟩
  | .ptr id gen i p o, y, hl, h => by
    simp only [VRel] at h ⊢
    simp only [idlt] at hl
    obtain ⟨g, C, k, h1, h2⟩ := h
    exact ⟨g, C, k, mv.row _ _ _ hl h1, h2⟩
  | .rop x, y, hl, h => by
    simp only [VRel] at h ⊢
    simp only [idlt] at hl
    obtain ⟨a, z, h1, h2, h3, h4⟩ := h
    exact ⟨a, z, VRel.move mv x z hl h1, h2, h3.move mv, h4⟩
  | .map id, y, hl, h => by
    simp only [VRel] at h ⊢
    simp only [idlt] at hl
    obtain ⟨g, h1, h2⟩ := h
    exact ⟨g, mv.map _ _ hl h1, h2⟩
  | .fn f p q, y, hl, h => by
    simp only [VRel] at h ⊢
    simp only [idlt] at hl
    obtain ⟨xs, ys, h1, h2, h3⟩ := h
    exact ⟨xs, ys, VL.move mv p xs hl.1 h1, VL.move mv q ys hl.2 h2, h3⟩
  | .any, y, _, h => by simpa [VRel] using h
theorem CL.move {n : Nat} (mv : Move n F m F' m') : ∀ (l : List AV) (cs : List Value), idltL n l → CL F m l cs → CL F' m' l cs
  | [], _, _, h => by simpa [CL] using h
  | x :: l, cs, hl, h => by
    simp only [CL] at h ⊢
    simp only [idltL] at hl
    obtain ⟨y, ds, h1, h2, h3, h4⟩ := h
    exact ⟨y, ds, VRel.move mv x y hl.1 h1, h2, CL.move mv l ds hl.2 h3, h4⟩
theorem VL.move {n : Nat} (mv : Move n F m F' m') : ∀ (l : List AV) (ys : List Value), idltL n l → VL F m l ys → VL F' m' l ys
  | [], _, _, h => by simpa [VL] using h
  | x :: l, cs, hl, h => by
    simp only [VL] at h ⊢
    simp only [idltL] at hl
    obtain ⟨y, ds, h1, h2, h3⟩ := h
    exact ⟨y, ds, VRel.move mv x y hl.1 h1, VL.move mv l ds hl.2 h2, h3⟩
end

mutual
theorem VRel.lt {n : Nat} (hr : ∀ id gen, m.row id gen ≠ none → id < n) (hm : ∀ id, m.map id ≠ none → id < n) : ∀ (x : AV) (y : Value), VRel F m x y → idlt n x
  | .v _, _, h | .any, _, h => by simp only [idlt]
  | .agg l, y, h => by
    simp only [VRel] at h
    obtain ⟨cs, h1, h2⟩ := h
    simp only [idlt]; exact CL.lt hr hm l cs h1
  | .tup l, y, h => by
    simp only [VRel] at h
    obtain ⟨cs, h1, h2⟩ := h
    simp only [idlt]; exact VL.lt hr hm l cs h1
  | .lit k full l, y, h => by
    simp only [VRel] at h
    obtain ⟨a, cap, cs, h1, h2⟩ := h
    simp only [idlt]; exact CL.lt hr hm l cs h1
  | .sl id gen off len, y, h => by
    simp only [VRel] at h
    obtain ⟨g, C, k, a, h1, h2⟩ := h
    simp only [idlt]; exact hr id gen (by rw [h1]; simp)
  | .isl id gen i p o k off len _, y, h => by
    simp only [VRel] at h
    obtain ⟨g, C, k, a, h1, h2⟩ := h
    simp only [idlt]; exact hr id gen (by rw [h1]; simp)
  | .ptr id gen i p o, y, h => by
    simp only [VRel] at h
    obtain ⟨g, C, k, h1, h2⟩ := h
    simp only [idlt]; exact hr id gen (by rw [h1]; simp)
  | .rop x, y, h => by
    simp only [VRel] at h
    obtain ⟨a, z, h1, h2⟩ := h
    simp only [idlt]; exact VRel.lt hr hm x z h1
  | .map id, y, h => by
    simp only [VRel] at h
    obtain ⟨g, h1, h2⟩ := h
    simp only [idlt]; exact hm id (by rw [h1]; simp)
  | .fn f p q, y, h => by
    simp only [VRel] at h
    obtain ⟨xs, ys, h1, h2, h3⟩ := h
    simp only [idlt]; exact ⟨VL.lt hr hm p xs h1, VL.lt hr hm q ys h2⟩
theorem CL.lt {n : Nat} (hr : ∀ id gen, m.row id gen ≠ none → id < n) (hm : ∀ id, m.map id ≠ none → id < n) : ∀ (l : List AV) (cs : List Value), CL F m l cs → idltL n l
  | [], _, _ => by simp only [idltL]
  | x :: l, cs, h => by
    simp only [CL] at h
    obtain ⟨y, ds, h1, h2, h3, h4⟩ := h
    simp only [idltL]; exact ⟨VRel.lt hr hm x y h1, CL.lt hr hm l ds h3⟩
theorem VL.lt {n : Nat} (hr : ∀ id gen, m.row id gen ≠ none → id < n) (hm : ∀ id, m.map id ≠ none → id < n) : ∀ (l : List AV) (ys : List Value), VL F m l ys → idltL n l
  | [], _, _ => by simp only [idltL]
  | x :: l, cs, h => by
    simp only [VL] at h
    obtain ⟨y, ds, h1, h2, h3⟩ := h
    simp only [idltL]; exact ⟨VRel.lt hr hm x y h1, VL.lt hr hm l ds h2⟩
end

theorem EntR_lt {n : Nat} (hr : ∀ id gen, m.row id gen ≠ none → id < n) (hm : ∀ id, m.map id ≠ none → id < n) : ∀ {es : List (AV × AV × Nat)} {l : List MapEntry}, EntR F m es l → ∀ e ∈ es, idlt n e.1 ∧ idlt n e.2.1
  | [], _, _, e, he => by simp at he
  | (k, x, b) :: es, l, h, e, he => by
    simp only [EntR] at h
    obtain ⟨e0, r, h1, h2, h3, h4, h5⟩ := h
    rcases List.mem_cons.1 he with rfl | he
    · exact ⟨VRel.lt hr hm _ _ h1, VRel.lt hr hm _ _ h2⟩
    · exact EntR_lt hr hm h4 e he

theorem EntR_move {n : Nat} (mv : Move n F m F' m') : ∀ {es : List (AV × AV × Nat)} {l : List MapEntry}, (∀ e ∈ es, idlt n e.1 ∧ idlt n e.2.1) → EntR F m es l → EntR F' m' es l
  | [], _, _, h => by simpa [EntR] using h
  | (k, x, b) :: es, l, hl, h => by
    simp only [EntR] at h ⊢
    obtain ⟨e0, r, h1, h2, h3, h4, h5⟩ := h
    have := hl (k, x, b) (by simp)
    exact ⟨e0, r, VRel.move mv _ _ this.1 h1, VRel.move mv _ _ this.2 h2, h3, EntR_move mv (fun e he => hl e (by simp [he])) h4, h5⟩

theorem Rel.rowLt (r : Rel F m h w) {id : Nat} {x : Row} (hx : h[id]? = some x) : rowLt h.length x := by
  cases x with
  | row k gen els ex =>
    obtain ⟨g, C, e, cur, xr⟩ := r.row _ _ _ _ _ hx
    simp only [AM.rowLt]
    exact CL.lt r.fresh r.freshM _ _ xr.cells
  | map es c =>
    obtain ⟨g, ents, xm⟩ := r.map _ _ _ hx
    simp only [AM.rowLt]
    exact EntR_lt r.fresh r.freshM xm.ents
  | dead => trivial

/-! ### Old rows kept, new ones frozen -/
def OwnB (h : Heap) (m : Mp) (n : Nat) (b : Nat) : Prop := ∃ id, id < n ∧ ((∃ k gen els ex C r, h[id]? = some (.row k gen els ex) ∧ m.row id gen = some (b, C, r)) ∨ ∃ es c, h[id]? = some (.map es c) ∧ m.map id = some b)
open Classical in
noncomputable def frF (F : Fz) (m : Mp) (h : Heap) (n : Nat) (w : World) : Fz := fun b => if OwnB h m n b then F b else w.heap[b]?
def cut (m : Mp) (n : Nat) : Mp := ⟨fun id gen => if id < n then m.row id gen else none, fun id => if id < n then m.map id else none⟩

theorem frF_own {n b : Nat} (hb : OwnB h m n b) : frF F m h n w b = F b := by unfold frF; rw [if_pos hb]
theorem frF_new {n b : Nat} (hb : ¬ OwnB h m n b) : frF F m h n w b = w.heap[b]? := by unfold frF; rw [if_neg hb]

theorem frF_fz (r : Rel F m h w) (n : Nat) : ∀ b o, F b = some o → frF F m h n w b = some o := by
  intro b o hb
  by_cases ho : OwnB h m n b
  · rw [frF_own ho]; exact hb
  · rw [frF_new ho]; exact r.fz b o hb

theorem move_cut (r : Rel F m h w) (n : Nat) : Move n F m (frF F m h n w) (cut m n) :=
  ⟨fun b c e f hb => frF_fz r n b _ hb, fun id gen x hi hx => by simp [cut, hi, hx], fun id x hi hx => by simp [cut, hi, hx]⟩

theorem not_own (r : Rel F m h w) {n id k gen g C : Nat} {els : List AV} {ex : Tag} {e : TypeId} {cur : Array Value} (hn : n ≤ id) (hr : h[id]? = some (.row k gen els ex)) (x : RowR F m w id k gen els ex g C e cur) : ¬ OwnB h m n g := by
  rintro ⟨id', h1, ⟨k', gen', els', ex', C', r', h2, h3⟩ | ⟨es, c, h2, h3⟩⟩
  · have := r.inj id id' k gen els ex k' gen' els' ex' g C C' k r' hr h2 x.mp h3
    omega
  · obtain ⟨g', ents, xm⟩ := r.map _ _ _ h2
    have := xm.mp
    rw [h3] at this
    injection this with this
    subst this
    have := xm.heap
    rw [x.heap] at this
    cases this

theorem Rel.freeze (r : Rel F m h w) {n : Nat} {h' : Heap} (hl : h'.length = n) (hh : ∀ id, id < n → h'[id]? = h[id]?) (hlt : ∀ id x, id < n → h[id]? = some x → AM.rowLt n x) : Rel (frF F m h n w) (cut m n) h' w := by
  have mv := move_cut r n
  have dn : ∀ {id : Nat} {x : Row}, h'[id]? = some x → id < n ∧ h[id]? = some x := fun {id x} hx => by
    have hi : id < n := by have := (List.getElem?_eq_some_iff.1 hx).1; omega
    exact ⟨hi, by rw [← hh id hi]; exact hx⟩
  refine ⟨fun b o hb => ?_, fun id k gen els ex hr => ?_, fun id es c hr => ?_, fun id gen hi => ?_, fun id hi => ?_, ?_, ?_⟩
  · by_cases ho : OwnB h m n b
    · rw [frF_own ho] at hb; exact r.fz b o hb
    · rw [frF_new ho] at hb; exact hb
  · obtain ⟨hi, hr'⟩ := dn hr
    obtain ⟨g, C, e, cur, x⟩ := r.row _ _ _ _ _ hr'
    have ho : OwnB h m n g := ⟨id, hi, .inl ⟨k, gen, els, ex, C, k, hr', x.mp⟩⟩
    refine ⟨g, C, e, cur, ⟨mv.row _ _ _ hi x.mp, x.pos, x.heap, by rw [frF_own ho]; exact x.own, x.size, x.len, x.exact, x.ty, x.most, x.all, CL.move mv _ _ (hlt id _ hi hr') x.cells, fun gen' hg => ?_⟩⟩
    simp only [cut, hi, if_true] at hg
    exact x.gens gen' hg
  · obtain ⟨hi, hr'⟩ := dn hr
    obtain ⟨g, ents, x⟩ := r.map _ _ _ hr'
    have ho : OwnB h m n g := ⟨id, hi, .inr ⟨es, c, hr', x.mp⟩⟩
    exact ⟨g, ents, ⟨mv.map _ _ hi x.mp, x.heap, by rw [frF_own ho]; exact x.own, EntR_move mv (hlt id _ hi hr') x.ents⟩⟩
  · rw [hl]
    simp only [cut] at hi
    split at hi
    · assumption
    · exact (hi rfl).elim
  · rw [hl]
    simp only [cut] at hi
    split at hi
    · assumption
    · exact (hi rfl).elim
  · intro id id' k gen els ex k' gen' els' ex' g C C' q q' h1 h2 h3 h4
    obtain ⟨i1, h1⟩ := dn h1
    obtain ⟨i2, h2⟩ := dn h2
    simp only [cut, i1, i2, if_true] at h3 h4
    exact r.inj id id' k gen els ex k' gen' els' ex' g C C' q q' h1 h2 h3 h4
  · intro id id' es c es' c' g h1 h2 h3 h4
    obtain ⟨i1, h1⟩ := dn h1
    obtain ⟨i2, h2⟩ := dn h2
    simp only [cut, i1, i2, if_true] at h3 h4
    exact r.injM id id' es c es' c' g h1 h2 h3 h4

theorem frozen_els (r : Rel F m h w) {n : Nat} {x : AV} {v : Value} {k g C k0 gen id : Nat} {els0 : List AV} {ex : Tag} {e : TypeId} {cur : Array Value} {l : List AV} {ad : Addr} {cap : Nat} {cs : List Value} (el : Els F m w k l v ad cap cs)
    (hn : n ≤ id) (hr : h[id]? = some (.row k0 gen els0 ex)) (xr : RowR F m w id k0 gen els0 ex g C e cur) (hb : ad.block = g) (hf : idfreeL l = true) : VRel (frF F m h n w) (cut m n) (.lit k false l) v := by
  simp only [VRel]
  refine ⟨ad, cap, cs, CL.move (move_cut r n) l cs (idfreeL_lt n l hf) el.cells, el.all, fun j c hj => ?_, el.spot, el.cap, by simp, el.val⟩
  have := el.mem j c hj
  rw [add_any el.spot] at this
  refine ⟨cur, e, (0, 0), by rw [hb, frF_new (not_own r hn hr xr)]; exact xr.heap, ?_⟩
  simpa [World.cell?, hb, xr.heap] using this

mutual
theorem frz_rel (r : Rel F m h w) (n : Nat) : ∀ (x x' : AV) (y : Value), frz n h x = some x' → VRel F m x y → VRel (frF F m h n w) (cut m n) x' y
  | .v z, x', y, hf, hv => by
    simp only [frz, Option.some.injEq] at hf
    subst hf
    exact VRel.move (move_cut r n) _ _ (by simp only [idlt]) hv
  | .any, x', y, hf, hv => by
    simp only [frz, Option.some.injEq] at hf
    subst hf
    exact VRel.move (move_cut r n) _ _ (by simp only [idlt]) hv
  | .agg l, x', y, hf, hv => by
    simp only [frz] at hf
    split at hf
    · rename_i l' hl
      simp only [Option.some.injEq] at hf
      subst hf
      simp only [VRel] at hv ⊢
      obtain ⟨cs, h1, h2⟩ := hv
      exact ⟨cs, frzL_cl r n l l' cs hl h1, h2⟩
    · cases hf
  | .tup l, x', y, hf, hv => by
    simp only [frz] at hf
    split at hf
    · rename_i l' hl
      simp only [Option.some.injEq] at hf
      subst hf
      simp only [VRel] at hv ⊢
      obtain ⟨cs, h1, h2⟩ := hv
      exact ⟨cs, frzL_vl r n l l' cs hl h1, h2⟩
    · cases hf
  | .lit k b l, x', y, hf, hv => by
    simp only [frz] at hf
    cases hb : idfreeL l with
    | false => simp [hb] at hf
    | true =>
      simp only [hb, cond_true, Option.some.injEq] at hf
      subst hf
      exact VRel.move (move_cut r n) _ _ (by simp only [idlt]; exact idfreeL_lt n l hb) hv
  | .rop x, x', y, hf, hv => by
    simp only [frz] at hf
    cases hb : idfree x with
    | false => simp [hb] at hf
    | true =>
      simp only [hb, cond_true, Option.some.injEq] at hf
      subst hf
      exact VRel.move (move_cut r n) _ _ (by simp only [idlt]; exact idfree_lt n x hb) hv
  | .sl id gen off len, x', y, hf, hv => by
    simp only [frz] at hf
    cases hb : Nat.blt id n with
    | true =>
      simp only [hb, cond_true, Option.some.injEq] at hf
      subst hf
      exact VRel.move (move_cut r n) _ _ (by simp only [idlt]; simpa [Nat.blt_eq] using hb) hv
    | false =>
      simp only [hb, cond_false] at hf
      have hn : n ≤ id := by
        rcases Nat.lt_or_ge id n with h1 | h1
        · have : Nat.blt id n = true := by simpa [Nat.blt_eq] using h1
          rw [this] at hb; cases hb
        · exact h1
      split at hf
      · rename_i k l he
        cases hi : idfreeL l with
        | false => simp [hi] at hf
        | true =>
          simp only [hi, cond_true, Option.some.injEq] at hf
          subst hf
          obtain ⟨ad, cap, cs, el⟩ := elsOf_rel r he hv
          have he' := he
          simp only [elsOf] at he'
          split at he'
          · rename_i k0 g0 els0 ex hr
            cases hg : Nat.beq g0 gen with
            | false => simp [hg] at he'
            | true =>
              have e1 := Nat.eq_of_beq_eq_true hg
              subst e1
              obtain ⟨g, C, e, cur, ad', xr, _, h2, _, _, h5⟩ := sl_row r hv hr
              have := el.val
              rw [h5] at this
              injection this with this
              injection this with this
              subst this
              exact frozen_els (x := .sl id g0 off len) r el hn hr xr h2 hi
          · cases he'
      · cases hf
  | .isl id gen i p o kk off len nn, x', y, hf, hv => by
    simp only [frz] at hf
    cases hb : Nat.blt id n with
    | true =>
      simp only [hb, cond_true, Option.some.injEq] at hf
      subst hf
      exact VRel.move (move_cut r n) _ _ (by simp only [idlt]; simpa [Nat.blt_eq] using hb) hv
    | false =>
      simp only [hb, cond_false] at hf
      have hn : n ≤ id := by
        rcases Nat.lt_or_ge id n with h1 | h1
        · have : Nat.blt id n = true := by simpa [Nat.blt_eq] using h1
          rw [this] at hb; cases hb
        · exact h1
      split at hf
      · rename_i k l he
        cases hi : idfreeL l with
        | false => simp [hi] at hf
        | true =>
          simp only [hi, cond_true, Option.some.injEq] at hf
          subst hf
          obtain ⟨ad, cap, cs, el⟩ := elsOf_rel r he hv
          have he' := he
          simp only [elsOf] at he'
          split at he'
          · rename_i k0 g0 els0 ex hr
            cases hg : Nat.beq g0 gen with
            | false => simp [hg] at he'
            | true =>
              have e1 := Nat.eq_of_beq_eq_true hg
              subst e1
              obtain ⟨g, C, e, cur, ad', xr, _, h2, _, _, h5⟩ := isl_row r hv hr
              have := el.val
              rw [h5] at this
              injection this with this
              injection this with this
              subst this
              exact frozen_els (x := .sl id g0 off len) r el hn hr xr h2 hi
          · cases he'
      · cases hf
  | .ptr id gen i p o, x', y, hf, hv => by
    simp only [frz] at hf
    cases hb : Nat.blt id n with
    | false => simp [hb] at hf
    | true =>
      simp only [hb, cond_true, Option.some.injEq] at hf
      subst hf
      exact VRel.move (move_cut r n) _ _ (by simp only [idlt]; simpa [Nat.blt_eq] using hb) hv
  | .map id, x', y, hf, hv => by
    simp only [frz] at hf
    cases hb : Nat.blt id n with
    | false => simp [hb] at hf
    | true =>
      simp only [hb, cond_true, Option.some.injEq] at hf
      subst hf
      exact VRel.move (move_cut r n) _ _ (by simp only [idlt]; simpa [Nat.blt_eq] using hb) hv
  | .fn g p q, x', y, hf, hv => by
    simp only [frz] at hf
    cases hb : (idfreeL p && idfreeL q) with
    | false => simp [hb] at hf
    | true =>
      simp only [hb, cond_true, Option.some.injEq] at hf
      subst hf
      rw [Bool.and_eq_true] at hb
      exact VRel.move (move_cut r n) _ _ (by simp only [idlt]; exact ⟨idfreeL_lt n p hb.1, idfreeL_lt n q hb.2⟩) hv
theorem frzL_cl (r : Rel F m h w) (n : Nat) : ∀ (l l' : List AV) (cs : List Value), frzL n h l = some l' → CL F m l cs → CL (frF F m h n w) (cut m n) l' cs
  | [], l', cs, hf, hv => by
    simp only [frzL, Option.some.injEq] at hf
    subst hf
    simpa [CL] using hv
  | x :: l, l', cs, hf, hv => by
    simp only [frzL] at hf
    split at hf
    · rename_i y ys h1 h2
      simp only [Option.some.injEq] at hf
      subst hf
      simp only [CL] at hv ⊢
      obtain ⟨z, ds, g1, g2, g3, g4⟩ := hv
      exact ⟨z, ds, frz_rel r n x y z h1 g1, g2, frzL_cl r n l ys ds h2 g3, g4⟩
    · cases hf
theorem frzL_vl (r : Rel F m h w) (n : Nat) : ∀ (l l' : List AV) (cs : List Value), frzL n h l = some l' → VL F m l cs → VL (frF F m h n w) (cut m n) l' cs
  | [], l', cs, hf, hv => by
    simp only [frzL, Option.some.injEq] at hf
    subst hf
    simpa [VL] using hv
  | x :: l, l', cs, hf, hv => by
    simp only [frzL] at hf
    split at hf
    · rename_i y ys h1 h2
      simp only [Option.some.injEq] at hf
      subst hf
      simp only [VL] at hv ⊢
      obtain ⟨z, ds, g1, g2, g3⟩ := hv
      exact ⟨z, ds, frz_rel r n x y z h1 g1, frzL_vl r n l ys ds h2 g2, g3⟩
    · cases hf
end

/-- WHAT A CALL GIVES BACK. -/
theorem finish_sound {F2 : Fz} {m2 : Mp} {w2 : World} {h0 : Heap} {st0 st : St} {keep : Bool} {r y : AV} {h' : Heap} {e : Eff} {v : Value} (r0 : Rel F m h0 w) (r2 : Rel F2 m2 st.h w2) (ex : Ext F m F2 m2) (hs : st0.h = h0) (hd : st0.ds = []) (hl : st0.ls = []) (law : LawSt h0.length st0 st)
    (hv : VRel F2 m2 r v) (hf : finish keep h0 st r = (y, h', e)) : ∃ F' m', Ext F m F' m' ∧ VRel F' m' y v ∧ Rel F' m' h' w2 := by
  unfold finish at hf
  cases keep with
  | true =>
    simp only [cond_true, Prod.mk.injEq] at hf
    obtain ⟨rfl, rfl, rfl⟩ := hf
    exact ⟨F2, m2, ex, hv, r2⟩
  | false =>
    simp only [cond_false] at hf
    split at hf
    · rename_i hls
      split at hf
      · rename_i r' hfr
        have hlen : h0.length ≤ st.h.length := by rw [← hs]; exact law.len
        have hlt : ∀ id x, id < h0.length → st.h[id]? = some x → AM.rowLt h0.length x := fun id x hi hx => by
          have hi0 : id < st0.h.length := by rw [hs]; exact hi
          have h0x : st0.h[id]? = some st0.h[id] := List.getElem?_eq_getElem hi0
          exact law.ls h0.length id _ x hi (by rw [hls]; simp) h0x hx (r0.rowLt (by rw [← hs]; exact h0x))
        have ext : Ext F m (frF F2 m2 st.h h0.length w2) (cut m2 h0.length) := by
          have mv := move_cut r2 h0.length
          refine ⟨fun b o hb => frF_fz r2 h0.length b o (ex.fz b o hb), fun id gen x hx => ?_, fun id x hx => ?_⟩
          · exact mv.row id gen x (r0.fresh id gen (by rw [hx]; simp)) (ex.row id gen x hx)
          · exact mv.map id x (r0.freshM id (by rw [hx]; simp)) (ex.map id x hx)
        have hvr := frz_rel r2 h0.length r r' v hfr hv
        split at hf
        · rename_i hds
          simp only [Prod.mk.injEq] at hf
          obtain ⟨rfl, rfl, rfl⟩ := hf
          refine ⟨_, _, ext, hvr, r2.freeze rfl (fun id hi => ?_) hlt⟩
          have := law.ds id hi (by rw [hs]; exact hi) (by rw [hds]; simp)
          rw [this, hs]
        · simp only [Prod.mk.injEq] at hf
          obtain ⟨rfl, rfl, rfl⟩ := hf
          refine ⟨_, _, ext, hvr, r2.freeze (by simp; omega) (fun id hi => ?_) hlt⟩
          rw [List.getElem?_take, if_pos hi]
      · simp only [Prod.mk.injEq] at hf
        obtain ⟨rfl, rfl, rfl⟩ := hf
        exact ⟨F2, m2, ex, hv, r2⟩
    · simp only [Prod.mk.injEq] at hf
      obtain ⟨rfl, rfl, rfl⟩ := hf
      exact ⟨F2, m2, ex, hv, r2⟩

theorem finish_quiet {h0 : Heap} {st : St} {keep : Bool} {r y : AV} {h' : Heap} {e : Eff} (hf : finish keep h0 st r = (y, h', e)) (hq : e.q = true) : h' = h0 ∧ e.ds = [] ∧ e.ls = [] := by
  unfold finish at hf
  cases keep with
  | true =>
    simp only [cond_true, Prod.mk.injEq] at hf
    obtain ⟨rfl, rfl, rfl⟩ := hf
    cases hq
  | false =>
    simp only [cond_false] at hf
    split at hf
    · split at hf
      · split at hf
        · simp only [Prod.mk.injEq] at hf
          obtain ⟨rfl, rfl, rfl⟩ := hf
          exact ⟨rfl, rfl, rfl⟩
        · simp only [Prod.mk.injEq] at hf
          obtain ⟨rfl, rfl, rfl⟩ := hf
          cases hq
      · simp only [Prod.mk.injEq] at hf
        obtain ⟨rfl, rfl, rfl⟩ := hf
        cases hq
    · simp only [Prod.mk.injEq] at hf
      obtain ⟨rfl, rfl, rfl⟩ := hf
      cases hq

theorem finish_law {h0 : Heap} {st0 st : St} {keep : Bool} {r y : AV} {h' : Heap} {e : Eff} (hs : st0.h = h0) (law : LawSt h0.length st0 st) (hf : finish keep h0 st r = (y, h', e)) : Law h0 h' e.ds e.ls := by
  have hlen : h0.length ≤ st.h.length := by rw [← hs]; exact law.len
  have whole : Law h0 st.h st.ds st.ls := by
    refine ⟨hlen, fun id hi hn => by rw [law.ds id hi (by rw [hs]; exact hi) hn, hs], fun n id r r' hn h1 h2 h3 => ?_⟩
    exact law.ls n id r r' (List.getElem?_eq_some_iff.1 h1).1 hn (by rw [hs]; exact h1) h2 h3
  unfold finish at hf
  cases keep with
  | true =>
    simp only [cond_true, Prod.mk.injEq] at hf
    obtain ⟨rfl, rfl, rfl⟩ := hf
    exact whole
  | false =>
    simp only [cond_false] at hf
    split at hf
    · rename_i hls
      rw [hls] at whole
      split at hf
      · split at hf
        · simp only [Prod.mk.injEq] at hf
          obtain ⟨rfl, rfl, rfl⟩ := hf
          exact Law.refl h0
        · simp only [Prod.mk.injEq] at hf
          obtain ⟨rfl, rfl, rfl⟩ := hf
          refine ⟨by simp; omega, fun id hi hn => ?_, fun n id r r' hn h1 h2 h3 => ?_⟩
          · rw [List.getElem?_take, if_pos hi]; exact whole.ds id hi hn
          · have hi := (List.getElem?_eq_some_iff.1 h1).1
            rw [List.getElem?_take, if_pos hi] at h2
            exact whole.ls n id r r' hn h1 h2 h3
      · simp only [Prod.mk.injEq] at hf
        obtain ⟨rfl, rfl, rfl⟩ := hf
        exact whole
    · simp only [Prod.mk.injEq] at hf
      obtain ⟨rfl, rfl, rfl⟩ := hf
      exact whole

end Go.AM

set_option linter.unusedVariables false
set_option linter.unusedSimpArgs false
namespace Go.AM
open Go

variable {F F' : Fz} {m m' : Mp} {fr : FR} {a : Act} {h : Heap} {w : World} {P : Program}

/-! ### Results -/
def resM (tmps : Array Value) : ResultVar → Sem Value
  | .tmp t => pure (tmps.getD t undef)
  | .cell a t => do loadVar t (← asAddr (tmps.getD a undef))

theorem resultE_run {nt : Nat} {st : St} (s : SRel F m nt st a w) {x : ResultVar} {y : AV} (hx : resultE P st x = some y) : ∃ v, (resM a.tmps x).run P w = .ok v w ∧ VRel F m y v := by
  cases x with
  | tmp t =>
    simp only [resultE] at hx
    obtain ⟨v, v1, v2⟩ := s.fr.get t y hx
    exact ⟨v, by simp [resM, v1], v2⟩
  | cell p t =>
    simp only [resultE] at hx
    split at hx
    · rename_i q hq
      obtain ⟨pv, p1, p2⟩ := s.fr.get p q hq
      obtain ⟨ad, v, v1, v2, v3, v4⟩ := loadE_run s.rel p2 hx
      subst v1
      exact ⟨v, by simp [-bind_pure_comp, resM, p1, asAddr, v2], v3⟩
    · cases hx

theorem resultsE_run {nt : Nat} {st : St} (s : SRel F m nt st a w) : ∀ {l : List ResultVar} {rs : List AV}, resultsE P st l = some rs → ∃ vs, (l.mapM (resM a.tmps)).run P w = .ok vs w ∧ VL F m rs vs
  | [], rs, h => by
    simp only [resultsE, Option.some.injEq] at h
    subst h
    exact ⟨[], by simp, by simp [VL]⟩
  | x :: l, rs, h => by
    simp only [resultsE] at h
    split at h
    · rename_i y ys h1 h2
      simp only [Option.some.injEq] at h
      subst h
      obtain ⟨v, v1, v2⟩ := resultE_run s h1
      obtain ⟨vs, v3, v4⟩ := resultsE_run s h2
      refine ⟨v :: vs, by simp [-bind_pure_comp, v1, v3], by simp only [VL]; exact ⟨v, vs, v2, v4, rfl⟩⟩
    · cases h

theorem results_run {nt : Nat} {st : St} (s : SRel F m nt st a w) {fn : Func} {rs : List AV} (hr : resultsE P st fn.results.toList = some rs) : ∃ v, (results fn a.tmps).run P w = .ok v w ∧ VRel F m (oneOrTup rs) v := by
  obtain ⟨vs, v1, v2⟩ := resultsE_run s hr
  have hm := mapM_array (P := P) fn.results (resM a.tmps) vs w v1
  have e : results fn a.tmps = (do let vs ← fn.results.mapM (resM a.tmps); pure (if h : vs.size = 1 then vs[0] else .tuple vs)) := by
    unfold results
    congr 1
  have hl := VL_len v2
  rw [e]
  refine ⟨if h : vs.toArray.size = 1 then vs.toArray[0] else .tuple vs.toArray, by simp [-bind_pure_comp, hm], ?_⟩
  cases rs with
  | nil =>
    simp only [VL] at v2
    subst v2
    simp [oneOrTup, VRel, VL]
  | cons x rs =>
    cases rs with
    | nil =>
      simp only [VL] at v2
      obtain ⟨y, ds, g1, rfl, rfl⟩ := v2
      simpa [oneOrTup] using g1
    | cons x' rs =>
      have : ¬ (vs.toArray.size = 1) := by simp [hl]
      rw [dif_neg this]
      simp only [oneOrTup, VRel]
      exact ⟨vs, v2, rfl⟩

/-! ### Arguments -/
theorem args0_get : ∀ (l : List AV) (vs : List Value) (i t : Nat) (y : AV), VL F m l vs → get (args0 i l) t = some y → ∃ j v, t = i + j ∧ vs[j]? = some v ∧ VRel F m y v
  | [], vs, i, t, y, hv, h => by simp [args0, get] at h
  | x :: l, vs, i, t, y, hv, h => by
    simp only [VL] at hv
    obtain ⟨v, ds, g1, g2, rfl⟩ := hv
    simp only [args0, get] at h
    cases hb : Nat.beq i t with
    | true =>
      simp only [hb, cond_true, Option.some.injEq] at h
      subst h
      exact ⟨0, v, by simpa using (Nat.eq_of_beq_eq_true hb).symm, rfl, g1⟩
    | false =>
      simp only [hb, cond_false] at h
      obtain ⟨j, u, h1, h2, h3⟩ := args0_get l ds (i + 1) t y g2 h
      exact ⟨j + 1, u, by omega, by simpa using h2, h3⟩

/-! ### The program -/
def funcOK (E : Env) (f : FuncId) (fn : Func) : Bool := !(fn.name == "runtime.NumGoroutine") && match fn.body with
  | some c => codeOK E f c
  | none => true

def funcsOK (E : Env) : Nat → List Func → Bool
  | _, [] => true
  | i, fn :: l => funcOK E i fn && funcsOK E (i + 1) l

def Env.ProgOK (E : Env) : Prop := ∀ (f : FuncId) fn, E.P.funcs[f]? = some fn → funcOK E f fn = true

theorem funcsOK_spec {E : Env} : ∀ (l : List Func) (i : Nat), funcsOK E i l = true → ∀ (j : Nat) fn, l[j]? = some fn → funcOK E (i + j) fn = true
  | [], i, h, j, fn, hj => by simp at hj
  | x :: l, i, h, j, fn, hj => by
    simp only [funcsOK, Bool.and_eq_true] at h
    cases j with
    | zero => simp at hj; subst hj; exact h.1
    | succ j =>
      rw [List.getElem?_cons_succ] at hj
      have := funcsOK_spec l (i + 1) h.2 j fn hj
      rw [show i + (j + 1) = i + 1 + j by omega]
      exact this

theorem progOK_of {E : Env} (h : funcsOK E 0 E.P.funcs.toList = true) : E.ProgOK := fun f fn hf => by
  have := funcsOK_spec _ 0 h f fn (by simpa using hf)
  simpa using this

structure OvOK (P : Program) (f : FuncId) (o : List AV → Heap → Option (AV × Heap × Eff)) : Prop where
  sound : ∀ args h y h' e, o args h = some (y, h', e) → ∀ F m w vs, Rel F m h w → VL F m args vs → ∀ next : Value → World → Prop,
    (∀ v w' F' m', Ext F m F' m' → VRel F' m' y v → Rel F' m' h' w' → Same w w' → next v w') → UponC P next ((callFunc f vs.toArray).run P w)
  quiet : ∀ args h y h' e, o args h = some (y, h', e) → e.q = true → h' = h ∧ e.ds = [] ∧ e.ls = []
  law : ∀ args h y h' e, o args h = some (y, h', e) → Law h h' e.ds e.ls

def Env.OvsOK (E : Env) : Prop := ∀ f o, E.ov f = some o → OvOK E.P f o

theorem callFunc_enter {f : FuncId} {fn : Func} {c : Code} (hf : P.funcs[f]? = some fn) (hb : fn.body = some c) (hn : (fn.name == "runtime.NumGoroutine") = false) (vs : Array Value) :
    (callFunc f vs).run P w = .ok (.enter f vs) w := by
  have hn' : ¬ fn.name = "runtime.NumGoroutine" := by simpa using hn
  simp [callFunc, hf, hb, hn']

structure Env.OK (E : Env) : Prop where
  mixed : E.P.follows .mixedOrders = true
  zeros : E.ZerosOK
  prog : E.ProgOK
  ovs : E.OvsOK

/-- EVERY CALL. -/
theorem call_ok {E : Env} (H : E.OK) : ∀ n, CallOK E.P (call E n) ∧ QuietK (call E n) ∧ LawK (call E n) := by
  intro n
  induction n with
  | zero => exact ⟨fun f args h y h' e hc => by simp [call] at hc, fun f args h y h' e hc => by simp [call] at hc, fun f args h y h' e hc => by simp [call] at hc⟩
  | succ n ih =>
    obtain ⟨ihK, ihQ, ihL⟩ := ih
    have open_ : ∀ f args h y h' e, call E (n + 1) f args h = some (y, h', e) → (∃ o, E.ov f = some o ∧ o args h = some (y, h', e)) ∨
        ∃ fn c ex st rs, E.P.funcs[f]? = some fn ∧ fn.body = some c ∧ args.length ≤ fn.ntmps ∧ exec E (call E n) n f fn.ntmps h.length c ⟨args0 0 args, h, [], []⟩ = some (ex, st) ∧ (ex = .normal ∨ ex = .ret) ∧ resultsE E.P st fn.results.toList = some rs ∧
          finish (E.keep f) h st (oneOrTup rs) = (y, h', e) := by
      intro f args h y h' e hc
      simp only [call] at hc
      split at hc
      · rename_i o ho
        exact .inl ⟨o, ho, hc⟩
      · split at hc
        · rename_i fn hf
          split at hc
          · rename_i c hb
            cases hl : Nat.ble args.length fn.ntmps with
            | false => simp [hl] at hc
            | true =>
              simp only [hl, cond_true] at hc
              right
              split at hc
              · rename_i st hx
                split at hc
                · rename_i rs hr
                  injection hc with hc
                  exact ⟨fn, c, .normal, st, rs, hf, hb, Nat.le_of_ble_eq_true hl, hx, .inl rfl, hr, hc⟩
                · cases hc
              · rename_i st hx
                split at hc
                · rename_i rs hr
                  injection hc with hc
                  exact ⟨fn, c, .ret, st, rs, hf, hb, Nat.le_of_ble_eq_true hl, hx, .inr rfl, hr, hc⟩
                · cases hc
              · cases hc
          · cases hc
        · cases hc
    refine ⟨?_, ?_, ?_⟩
    · intro f args h y h' e hc F m w vs r hv next hn
      rcases open_ f args h y h' e hc with ⟨o, ho, hc⟩ | ⟨fn, c, ex, st, rs, hf, hb, hl, hx, hex, hr, hfin⟩
      · exact (H.ovs f o ho).sound args h y h' e hc F m w vs r hv next hn
      · have hok := H.prog f fn hf
        simp only [funcOK, hb, Bool.and_eq_true] at hok
        have hname : (fn.name == "runtime.NumGoroutine") = false := by simpa using hok.1
        rw [callFunc_enter hf hb hname]
        simp only [UponC]
        refine calls_of_wp hf hb ?_
        have hvl := VL_len hv
        have s0 : SRel F m fn.ntmps ⟨args0 0 args, h, [], []⟩ { tmps := vs.toArray ++ Array.replicate (fn.ntmps - vs.toArray.size) undef, defers := [] } w := by
          refine ⟨r, ⟨fun t z hz => ?_⟩, by simp; omega, rfl⟩
          obtain ⟨j, v, h1, h2, h3⟩ := args0_get args vs 0 t z hv hz
          have ht : t = j := by omega
          subst ht
          have hlt := lt_of_getElem? h2
          refine ⟨v, ?_, h3⟩
          rw [Array.getElem?_append_left (by simpa using hlt)]
          simpa using h2
        refine (exec_sound H.mixed H.zeros ihK ihQ c hok.2).1 _ ex st hx F m _ w s0 _ fun a' w' F' m' he s' hsm => ?_
        obtain ⟨v, v1, v2⟩ := results_run s' hr
        have law := (exec_law H.zeros ihL c).1 _ ex st hx
        obtain ⟨F2, m2, g1, g2, g3⟩ := finish_sound r s'.rel he rfl rfl rfl law v2 hfin
        have post : a'.defers = [] ∧ ∃ v, (results fn a'.tmps).run E.P w' = .ok v w' ∧ (∃ u, Ending.returned v = .returned u ∧ next u w') :=
          ⟨s'.defers, v, v1, v, rfl, hn v w' F2 m2 g1 g2 g3 hsm⟩
        rcases hex with rfl | rfl
        all_goals
          exact post
    · intro f args h y h' e hc hq
      rcases open_ f args h y h' e hc with ⟨o, ho, hc⟩ | ⟨fn, c, ex, st, rs, hf, hb, hl, hx, hex, hr, hfin⟩
      · exact (H.ovs f o ho).quiet args h y h' e hc hq
      · exact finish_quiet hfin hq
    · intro f args h y h' e hc
      rcases open_ f args h y h' e hc with ⟨o, ho, hc⟩ | ⟨fn, c, ex, st, rs, hf, hb, hl, hx, hex, hr, hfin⟩
      · exact (H.ovs f o ho).law args h y h' e hc
      · exact finish_law (st0 := ⟨args0 0 args, h, [], []⟩) rfl ((exec_law H.zeros ihL c).1 _ ex st hx) hfin

end Go.AM
