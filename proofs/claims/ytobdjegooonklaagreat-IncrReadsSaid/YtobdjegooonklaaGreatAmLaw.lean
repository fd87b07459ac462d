/- What a run of the abstract machine leaves alone. Conditions: none. -/
import Derived.Test.YtobdjegooonklaaGreatAmExec
set_option linter.unusedVariables false
set_option linter.unusedSimpArgs false
namespace Go.AM
open Go

variable {fr : FR} {h : Heap} {P : Program}

mutual
/-- Every id of the heap that stands in it is below n. -/
def idlt (n : Nat) : AV → Prop
  | .v _ | .any => True
  | .agg l | .tup l | .lit _ _ l => idltL n l
  | .rop x => idlt n x
  | .fn _ p q => idltL n p ∧ idltL n q
  | .sl id .. | .isl id .. | .ptr id .. | .map id => id < n
def idltL (n : Nat) : List AV → Prop
  | [] => True
  | x :: l => idlt n x ∧ idltL n l
end

mutual
theorem idfree_lt (n : Nat) : ∀ (x : AV), idfree x = true → idlt n x
  | .v _, _ | .any, _ => by simp only [idlt]
  | .agg l, h => by simp only [idfree] at h; simp only [idlt]; exact idfreeL_lt n l h
  | .tup l, h => by simp only [idfree] at h; simp only [idlt]; exact idfreeL_lt n l h
  | .lit _ _ l, h => by simp only [idfree] at h; simp only [idlt]; exact idfreeL_lt n l h
  | .rop x, h => by simp only [idfree] at h; simp only [idlt]; exact idfree_lt n x h
  | .fn _ p q, h => by simp only [idfree, Bool.and_eq_true] at h; simp only [idlt]; exact ⟨idfreeL_lt n p h.1, idfreeL_lt n q h.2⟩
  | .sl .., h | .isl .., h | .ptr .., h | .map _, h => by simp [idfree] at h
theorem idfreeL_lt (n : Nat) : ∀ (l : List AV), idfreeL l = true → idltL n l
  | [], _ => by simp only [idltL]
  | x :: l, h => by simp only [idfreeL, Bool.and_eq_true] at h; simp only [idltL]; exact ⟨idfree_lt n x h.1, idfreeL_lt n l h.2⟩
end

mutual
theorem toV_lt (n : Nat) : ∀ (x : AV) (v : Value), toV x = some v → idlt n x
  | .v _, _, _ => by simp only [idlt]
  | .agg l, v, h => by
    simp only [toV] at h
    cases hs : toVs l with
    | none => simp [hs] at h
    | some cs => simp only [idlt]; exact toVs_lt n l cs hs
  | .tup _, _, h | .lit .., _, h | .sl .., _, h | .isl .., _, h | .ptr .., _, h | .rop _, _, h | .map _, _, h | .fn .., _, h | .any, _, h => by simp [toV] at h
theorem toVs_lt (n : Nat) : ∀ (l : List AV) (cs : List Value), toVs l = some cs → idltL n l
  | [], _, _ => by simp only [idltL]
  | x :: l, cs, h => by
    simp only [toVs] at h
    cases hx : toV x with
    | none => simp [hx] at h
    | some v =>
      cases hl : toVs l with
      | none => simp [hx, hl] at h
      | some ds => simp only [idltL]; exact ⟨toV_lt n x v hx, toVs_lt n l ds hl⟩
end

theorem idltL_iff {n : Nat} : ∀ {l : List AV}, idltL n l ↔ ∀ x ∈ l, idlt n x
  | [] => by simp [idltL]
  | x :: l => by simp [idltL, idltL_iff (l := l)]

theorem idltL_append {n : Nat} {l r : List AV} (h1 : idltL n l) (h2 : idltL n r) : idltL n (l ++ r) := by
  rw [idltL_iff] at *
  intro x hx
  rcases List.mem_append.1 hx with h | h
  · exact h1 x h
  · exact h2 x h

theorem idltL_take {n k : Nat} {l : List AV} (h1 : idltL n l) : idltL n (l.take k) := by
  rw [idltL_iff] at *
  exact fun x hx => h1 x (List.mem_of_mem_take hx)

theorem idltL_drop {n k : Nat} {l : List AV} (h1 : idltL n l) : idltL n (l.drop k) := by
  rw [idltL_iff] at *
  exact fun x hx => h1 x (List.mem_of_mem_drop hx)

theorem idltL_set {n i : Nat} {l : List AV} {x : AV} (h1 : idltL n l) (h2 : idlt n x) : idltL n (l.set i x) := by
  rw [idltL_iff] at *
  intro y hy
  rcases List.mem_or_eq_of_mem_set hy with h | h
  · exact h1 y h
  · exact h ▸ h2

theorem idltL_replicate {n k : Nat} {x : AV} (h2 : idlt n x) : idltL n (List.replicate k x) := by
  rw [idltL_iff]
  intro y hy
  rw [List.eq_of_mem_replicate hy]
  exact h2

theorem idltL_setFrom {n : Nat} : ∀ {ys l : List AV} {i : Nat}, idltL n l → idltL n ys → idltL n (setFrom l i ys)
  | [], l, i, h1, _ => by simpa [setFrom] using h1
  | y :: ys, l, i, h1, h2 => by
    simp only [idltL] at h2
    simp only [setFrom]
    exact idltL_setFrom (idltL_set h1 h2.1) h2.2

mutual
theorem put_lt (n : Nat) : ∀ (z : AV) (p : List Nat) (o : Nat) (x z' : AV), put z p o x = some z' → idlt n z → idlt n x → idlt n z'
  | z, [], o, x, z', h, hz, hx => by
    unfold put at h
    cases hb : (Nat.beq o 0 && Nat.beq (leafs z) (leafs x)) with
    | false => simp [hb] at h
    | true => simp [hb] at h; exact h ▸ hx
  | .agg l, f :: p, o, x, z', h, hz, hx => by
    simp only [put] at h
    split at h
    · rename_i l' hl
      simp only [Option.some.injEq] at h
      subst h
      simp only [idlt] at hz ⊢
      exact putL_lt n l f p o x l' hl hz hx
    · cases h
  | .v _, _ :: _, _, _, _, h, _, _ | .tup _, _ :: _, _, _, _, h, _, _ | .lit .., _ :: _, _, _, _, h, _, _ | .sl .., _ :: _, _, _, _, h, _, _ | .isl .., _ :: _, _, _, _, h, _, _
  | .ptr .., _ :: _, _, _, _, h, _, _ | .rop _, _ :: _, _, _, _, h, _, _ | .map _, _ :: _, _, _, _, h, _, _ | .fn .., _ :: _, _, _, _, h, _, _ | .any, _ :: _, _, _, _, h, _, _ => by simp [put] at h
theorem putL_lt (n : Nat) : ∀ (l : List AV) (f : Nat) (p : List Nat) (o : Nat) (x : AV) (l' : List AV), putL l f p o x = some l' → idltL n l → idlt n x → idltL n l'
  | [], _, _, _, _, _, h, _, _ => by simp [putL] at h
  | y :: l, 0, p, o, x, l', h, hl, hx => by
    simp only [putL] at h
    simp only [idltL] at hl
    split at h
    · rename_i y' hy
      simp only [Option.some.injEq] at h
      subst h
      simp only [idltL]
      exact ⟨put_lt n y p o x y' hy hl.1 hx, hl.2⟩
    · cases h
  | y :: l, f + 1, p, o, x, l', h, hl, hx => by
    simp only [putL] at h
    simp only [idltL] at hl
    cases hb : Nat.ble (leafs y) o with
    | false => simp [hb] at h
    | true =>
      simp only [hb, cond_true] at h
      split at h
      · rename_i l2 h2
        simp only [Option.some.injEq] at h
        subst h
        simp only [idltL]
        exact ⟨hl.1, putL_lt n l f p _ x l2 h2 hl.2 hx⟩
      · cases h
end

mutual
theorem nav_lt (n : Nat) : ∀ (z : AV) (p : List Nat) (o : Nat) (x : AV), nav z p o = some x → idlt n z → idlt n x
  | z, [], o, x, h, hz => by
    unfold nav at h
    cases hb : Nat.beq o 0 with
    | false => simp [hb] at h
    | true => simp [hb] at h; exact h ▸ hz
  | .agg l, f :: p, o, x, h, hz => by
    simp only [nav] at h
    simp only [idlt] at hz
    exact navL_lt n l f p o x h hz
  | .v _, _ :: _, _, _, h, _ | .tup _, _ :: _, _, _, h, _ | .lit .., _ :: _, _, _, h, _ | .sl .., _ :: _, _, _, h, _ | .isl .., _ :: _, _, _, h, _
  | .ptr .., _ :: _, _, _, h, _ | .rop _, _ :: _, _, _, h, _ | .map _, _ :: _, _, _, h, _ | .fn .., _ :: _, _, _, h, _ | .any, _ :: _, _, _, h, _ => by simp [nav] at h
theorem navL_lt (n : Nat) : ∀ (l : List AV) (f : Nat) (p : List Nat) (o : Nat) (x : AV), navL l f p o = some x → idltL n l → idlt n x
  | [], _, _, _, _, h, _ => by simp [navL] at h
  | y :: l, 0, p, o, x, h, hl => by
    simp only [navL] at h
    simp only [idltL] at hl
    exact nav_lt n y p o x h hl.1
  | y :: l, f + 1, p, o, x, h, hl => by
    simp only [navL] at h
    simp only [idltL] at hl
    cases hb : Nat.ble (leafs y) o with
    | false => simp [hb] at h
    | true =>
      simp only [hb, cond_true] at h
      exact navL_lt n l f p _ x h hl.2
end

def rowLt (n : Nat) : Row → Prop
  | .row _ _ els _ => idltL n els
  | .map es _ => ∀ e ∈ es, idlt n e.1 ∧ idlt n e.2.1
  | .dead => True

structure Law (h h' : Heap) (ds ls : List Nat) : Prop where
  len : h.length ≤ h'.length
  ds : ∀ id, id < h.length → id ∉ ds → h'[id]? = h[id]?
  ls : ∀ n id r r', id ∉ ls → h[id]? = some r → h'[id]? = some r' → rowLt n r → rowLt n r'

theorem Law.refl (h : Heap) : Law h h [] [] := ⟨Nat.le_refl _, fun _ _ _ => rfl, fun n id r r' _ h1 h2 h3 => by rw [h1] at h2; injection h2 with h2; exact h2 ▸ h3⟩

theorem Law.new (h : Heap) (r : Row) : Law h (h ++ [r]) [] [] := by
  refine ⟨by simp, fun id hi _ => by rw [List.getElem?_append_left hi], fun n id r1 r2 _ h1 h2 h3 => ?_⟩
  have hi := (List.getElem?_eq_some_iff.1 h1).1
  rw [List.getElem?_append_left hi, h1] at h2
  injection h2 with h2
  exact h2 ▸ h3

theorem Law.set {h : Heap} {id : Nat} {r r' : Row} {b : Bool} (hr : h[id]? = some r) (hb : b = false → ∀ n, rowLt n r → rowLt n r') : Law h (h.set id r') [id] (bif b then [id] else []) := by
  have hi := (List.getElem?_eq_some_iff.1 hr).1
  refine ⟨by simp, fun j hj hn => ?_, fun n j r1 r2 hn h1 h2 h3 => ?_⟩
  · rw [List.getElem?_set_ne]
    intro e
    exact hn (by simp [e])
  · by_cases e : id = j
    · subst e
      rw [List.getElem?_set_self hi] at h2
      rw [hr] at h1
      injection h1 with h1
      injection h2 with h2
      subst h1; subst h2
      cases b with
      | false => exact hb rfl n h3
      | true => exact (hn (by simp)).elim
    · rw [List.getElem?_set_ne e, h1] at h2
      injection h2 with h2
      exact h2 ▸ h3

def LawS (h h' : Heap) : Option (Nat × Bool) → Prop
  | none => Law h h' [] []
  | some (id, b) => Law h h' [id] (bif b then [id] else [])

theorem outOf_law {y : AV} {h' : Heap} {s : Option (Nat × Bool)} {c : Cl} {x : Out} (e : outOf y h' s c = x) (l : LawS h h' s) : Law h x.h x.ds x.ls := by
  subst e
  cases s with
  | none => exact l
  | some p => exact l

/-! ### The operations that call nothing -/
def LawR (h : Heap) (r : Option (AV × Heap × Option (Nat × Bool))) : Prop := ∀ y h' s, r = some (y, h', s) → LawS h h' s
theorem lawR_none : LawR h none := fun _ _ _ e => by cases e
theorem lawR_same {y : AV} : LawR h (some (y, h, none)) := fun _ _ _ e => by
  simp only [Option.some.injEq, Prod.mk.injEq] at e
  obtain ⟨rfl, rfl, rfl⟩ := e
  exact Law.refl h
theorem lawR_new {y : AV} {r : Row} : LawR h (some (y, h ++ [r], none)) := fun _ _ _ e => by
  simp only [Option.some.injEq, Prod.mk.injEq] at e
  obtain ⟨rfl, rfl, rfl⟩ := e
  exact Law.new h r
theorem lawR_newRow {y : AV} {k : Nat} {els : List AV} {ex : Tag} : LawR h (some (y, newRow h k els ex, none)) := lawR_new
theorem lawR_cond {b : Bool} {r r' : Option (AV × Heap × Option (Nat × Bool))} (h1 : LawR h r) (h2 : LawR h r') : LawR h (bif b then r else r') := by
  cases b
  · exact h2
  · exact h1

theorem storeE_law {t : TypeId} {a x : AV} {h' : Heap} {id : Nat} (hs : storeE P h t a x = some (h', id)) : Law h h' [id] (bif !idfree x then [id] else []) := by
  unfold storeE at hs
  split at hs
  · rename_i id' gen i p o n hn
    split at hs
    · rename_i k g els ex hr
      cases hb : (Nat.beq g gen && Nat.beq (leafs x) n && !isTupA x) with
      | false => simp [hb] at hs
      | true =>
        simp only [hb, cond_true] at hs
        split at hs
        · rename_i z hz
          split at hs
          · rename_i z' hp
            simp only [Option.some.injEq, Prod.mk.injEq] at hs
            obtain ⟨rfl, rfl⟩ := hs
            refine Law.set hr fun hf n hl => ?_
            have hf' : idfree x = true := by simpa using hf
            simp only [rowLt] at hl ⊢
            exact idltL_set hl (put_lt n _ _ _ _ _ hp (idltL_iff.1 hl _ (List.mem_of_getElem? hz)) (idfree_lt n x hf'))
          · cases hs
        · cases hs
    · cases hs
  · cases hs

theorem opE_law {E : Env} {f : FuncId} {o : Oper} : LawR h (opE E f fr h o) := by
  obtain ⟨dst, op, type, pos, after, guard⟩ := o
  cases op
  case store t x z =>
    intro y h' s ho
    simp only [opE] at ho
    split at ho
    · split at ho
      · rename_i h1 id hs
        simp only [Option.some.injEq, Prod.mk.injEq] at ho
        obtain ⟨rfl, rfl, rfl⟩ := ho
        exact storeE_law hs
      · cases ho
    · cases ho
  all_goals
    simp only [opE]
    repeat' (first | exact lawR_none | exact lawR_same | exact lawR_newRow | exact lawR_new | apply lawR_cond | contradiction | split)

end Go.AM

set_option linter.unusedVariables false
set_option linter.unusedSimpArgs false
namespace Go.AM
open Go

variable {fr : FR} {h : Heap} {P : Program}

def LawB (h : Heap) (r : OpRes) : Prop := ∀ y h' s c, r = some (y, h', s, c) → LawS h h' s
theorem lawB_none : LawB h none := fun _ _ _ _ e => by cases e
theorem lawB_mk {y : AV} {h' : Heap} {s : Option (Nat × Bool)} {c : Cl} (l : LawS h h' s) : LawB h (some (y, h', s, c)) := fun _ _ _ _ e => by
  simp only [Option.some.injEq, Prod.mk.injEq] at e
  obtain ⟨rfl, rfl, rfl, rfl⟩ := e
  exact l
theorem lawB_same {y : AV} {c : Cl} : LawB h (some (y, h, none, c)) := lawB_mk (Law.refl h)
theorem lawB_new {y : AV} {c : Cl} {k : Nat} {els : List AV} {ex : Tag} : LawB h (some (y, newRow h k els ex, none, c)) := lawB_mk (Law.new h _)
theorem lawB_cond {b : Bool} {r r' : OpRes} (h1 : LawB h r) (h2 : LawB h r') : LawB h (bif b then r else r') := by
  cases b
  · exact h2
  · exact h1

theorem lawB_row {y : AV} {c : Cl} {id k gen : Nat} {els ys : List AV} {ex : Tag} (hr : h[id]? = some (.row k gen els ex)) {k' gen' : Nat} {els' : List AV} {ex' : Tag}
    (hl : ∀ n, idltL n ys → idltL n els → idltL n els') : LawB h (some (y, h.set id (.row k' gen' els' ex'), some (id, !idfreeL ys), c)) :=
  lawB_mk (Law.set hr fun hf n hn => by
    have hf' : idfreeL ys = true := by simpa using hf
    simp only [rowLt] at hn ⊢
    exact hl n (idfreeL_lt n ys hf') hn)

theorem appendTo_law {e : TypeId} {k : Nat} {s : AV} {xs : List AV} : LawB h (appendTo h e k s xs) := by
  unfold appendTo
  split
  · exact lawB_cond lawB_same lawB_new
  · exact lawB_cond lawB_same (lawB_cond lawB_new lawB_none)
  · split
    · rename_i hr
      refine lawB_cond (lawB_cond ?_ (lawB_cond ?_ lawB_none)) lawB_none
      · exact lawB_row hr fun n h1 h2 => idltL_setFrom h2 h1
      · exact lawB_row hr fun n h1 h2 => idltL_append (idltL_take h2) h1
    · exact lawB_none
  · exact lawB_none

theorem appendE_law {Z : List (TypeId × AV)} {ts : Array TypeId} {s x : AV} : LawB h (appendE P Z h ts s x) := by
  unfold appendE
  repeat' (first | exact lawB_none | exact appendTo_law | apply lawB_cond | split)

theorem copyE_law {ts : Array TypeId} {s x : AV} : LawB h (copyE P h ts s x) := by
  unfold copyE
  split
  · split
    · split
      · split
        · dsimp only
          refine lawB_cond lawB_same ?_
          split
          · split
            · rename_i hr
              refine lawB_cond ?_ lawB_none
              exact lawB_row hr fun n h1 h2 => idltL_setFrom h2 h1
            · exact lawB_none
          · split
            · rename_i hr
              refine lawB_cond ?_ lawB_none
              split
              · rename_i z hz
                split
                · rename_i l hn
                  refine lawB_cond ?_ lawB_none
                  split
                  · rename_i z' hp
                    refine lawB_row hr fun n h1 h2 => ?_
                    have hz' := idltL_iff.1 h2 _ (List.mem_of_getElem? hz)
                    have hl := nav_lt n _ _ _ _ hn hz'
                    simp only [idlt] at hl
                    refine idltL_set h2 (put_lt n _ _ _ _ _ hp hz' ?_)
                    simp only [idlt]
                    exact idltL_setFrom hl h1
                  · exact lawB_none
                · exact lawB_none
              · exact lawB_none
            · exact lawB_none
          · exact lawB_none
        · exact lawB_none
      · exact lawB_none
    · exact lawB_none
  · exact lawB_none

theorem clearE_law {E : Env} (hE : E.ZerosOK) {ts : Array TypeId} {x : AV} : LawB h (clearE E h ts x) := by
  unfold clearE
  split
  · split
    · exact lawB_same
    · split
      · rename_i k g els ex z hr hz
        refine lawB_cond ?_ lawB_none
        refine lawB_mk ?_
        refine Law.set (b := false) hr fun _ n hl => ?_
        simp only [rowLt] at hl ⊢
        obtain ⟨i, v, _, _, hv⟩ := hE _ _ hz
        exact idltL_setFrom hl (idltL_replicate (toV_lt n _ _ hv))
      · exact lawB_none
    · exact lawB_none
  · exact lawB_none

theorem deleteE_law {E : Env} {ts : Array TypeId} {m k : AV} : LawB h (deleteE E h ts m k) := by
  unfold deleteE
  split
  · split
    · split
      · rename_i es c hr
        split
        · refine lawB_mk ?_
          refine Law.set (b := false) hr fun _ n hl => ?_
          simp only [rowLt] at hl ⊢
          exact fun e he => hl e (List.mem_of_mem_eraseIdx he)
        · exact lawB_same
        · exact lawB_none
      · exact lawB_none
    · exact lawB_none
  · exact lawB_none

theorem lenE_law {ts : Array TypeId} {x : AV} : LawB h (lenE P h ts x) := by
  unfold lenE
  repeat' (first | exact lawB_none | exact lawB_same | apply lawB_cond | split)

theorem capE_law {ts : Array TypeId} {x : AV} : LawB h (capE P h ts x) := by
  unfold capE
  repeat' (first | exact lawB_none | exact lawB_same | apply lawB_cond | split)

theorem sliceDataE_law {x : AV} : LawB h (sliceDataE h x) := by
  unfold sliceDataE
  repeat' (first | exact lawB_none | exact lawB_same | apply lawB_cond | split)

theorem unsafeStringE_law {ts : Array TypeId} {x n : AV} : LawB h (unsafeStringE P h ts x n) := by
  unfold unsafeStringE
  split
  · refine lawB_cond ?_ ?_
    · repeat' (first | exact lawB_none | exact lawB_same | split)
    · split
      · split
        · rename_i hr
          split
          · refine lawB_cond ?_ lawB_none
            exact lawB_mk (Law.set (b := false) hr fun _ _ _ => trivial)
          · exact lawB_none
        · exact lawB_none
      · exact lawB_none
  · exact lawB_none

theorem builtinE_law {E : Env} (hE : E.ZerosOK) {b : Builtin} {ts : Array TypeId} {ty : TypeId} {args : List AV} : LawB h (builtinE E h b ts ty args) := by
  unfold builtinE
  dsimp only
  repeat' (first | exact appendE_law | exact copyE_law | exact lenE_law | exact capE_law | exact clearE_law hE | exact deleteE_law | exact sliceDataE_law | exact unsafeStringE_law | exact lawB_none | exact lawB_same | split)

theorem findE_key {kt : TypeId} {em : Bool} {es : List (AV × AV × Nat)} {k : AV} {r : Option Nat} (hf : findE P kt em es k = some r) (n : Nat) : idlt n k := by
  unfold findE at hf
  split at hf
  · rename_i vs v h1 h2
    exact toV_lt n k v h2
  · cases hf

theorem updateE_law {E : Env} {t : TypeId} {m k x : AV} {h' : Heap} {id : Nat} (hs : updateE E h t m k x = some (h', id)) : Law h h' [id] (bif !idfree x then [id] else []) := by
  unfold updateE at hs
  split at hs
  · split at hs
    · rename_i es c hr
      split at hs
      · rename_i i hf
        have hk := findE_key hf
        split at hs
        · split at hs
          · split at hs
            · simp only [Option.some.injEq, Prod.mk.injEq] at hs
              obtain ⟨rfl, rfl⟩ := hs
              refine Law.set hr fun hb n hl => ?_
              have hf' : idfree x = true := by simpa using hb
              simp only [rowLt] at hl ⊢
              intro e he
              rcases List.mem_or_eq_of_mem_set he with h | h
              · exact hl e h
              · subst h; exact ⟨hk n, idfree_lt n x hf'⟩
            · cases hs
          · cases hs
        · cases hs
      · rename_i hf
        have hk := findE_key hf
        simp only [Option.some.injEq, Prod.mk.injEq] at hs
        obtain ⟨rfl, rfl⟩ := hs
        refine Law.set hr fun hb n hl => ?_
        have hf' : idfree x = true := by simpa using hb
        simp only [rowLt] at hl ⊢
        intro e he
        rcases List.mem_append.1 he with h | h
        · exact hl e h
        · simp only [List.mem_singleton] at h
          subst h; exact ⟨hk n, idfree_lt n x hf'⟩
      · cases hs
    · cases hs
  · cases hs

def LawK (K : CallK) : Prop := ∀ f args h y h' e, K f args h = some (y, h', e) → Law h h' e.ds e.ls

theorem coreO_law {E : Env} {K : CallK} (hE : E.ZerosOK) (hL : LawK K) {f : FuncId} {o : Oper} {x : Out} (ho : coreO E K f o fr h = some x) : Law h x.h x.ds x.ls := by
  unfold coreO at ho
  split at ho
  · split at ho
    · split at ho
      · split at ho
        · rename_i hb
          injection ho with ho
          exact outOf_law ho (builtinE_law hE _ _ _ _ hb)
        · cases ho
      · cases ho
    · split at ho
      · split at ho
        · rename_i hk
          injection ho with ho
          subst ho
          exact hL _ _ _ _ _ _ hk
        · cases ho
      · cases ho
  · split at ho
    · split at ho
      · rename_i hu
        injection ho with ho
        exact outOf_law ho (updateE_law hu)
      · cases ho
    · cases ho
  · split at ho
    · split at ho
      · rename_i hu
        injection ho with ho
        exact outOf_law ho (updateE_law hu)
      · cases ho
    · cases ho
  · split at ho
    · split at ho
      · injection ho with ho
        exact outOf_law ho (Law.refl h)
      · cases ho
    · cases ho
  · split at ho
    · rename_i hp
      injection ho with ho
      exact outOf_law ho (opE_law _ _ _ hp)
    · cases ho

/-! ### A state, since the call began -/
structure LawSt (n0 : Nat) (st st' : St) : Prop where
  len : st.h.length ≤ st'.h.length
  subd : ∀ id, id ∈ st.ds → id ∈ st'.ds
  subl : ∀ id, id ∈ st.ls → id ∈ st'.ls
  ds : ∀ id, id < n0 → id < st.h.length → id ∉ st'.ds → st'.h[id]? = st.h[id]?
  ls : ∀ n id r r', id < n0 → id ∉ st'.ls → st.h[id]? = some r → st'.h[id]? = some r' → rowLt n r → rowLt n r'

theorem LawSt.refl (n0 : Nat) (st : St) : LawSt n0 st st :=
  ⟨Nat.le_refl _, fun _ h => h, fun _ h => h, fun _ _ _ _ => rfl, fun n id r r' _ _ h1 h2 h3 => by rw [h1] at h2; injection h2 with h2; exact h2 ▸ h3⟩

theorem LawSt.trans {n0 : Nat} {a b c : St} (h1 : LawSt n0 a b) (h2 : LawSt n0 b c) : LawSt n0 a c := by
  refine ⟨Nat.le_trans h1.len h2.len, fun id h => h2.subd id (h1.subd id h), fun id h => h2.subl id (h1.subl id h), fun id hi hl hn => ?_, fun n id r r' hi hn hr hr' hl => ?_⟩
  · rw [h2.ds id hi (Nat.lt_of_lt_of_le hl h1.len) hn, h1.ds id hi hl fun h => hn (h2.subd id h)]
  · have hid : id < b.h.length := Nat.lt_of_lt_of_le (List.getElem?_eq_some_iff.1 hr).1 h1.len
    have hb : b.h[id]? = some b.h[id] := List.getElem?_eq_getElem hid
    exact h2.ls n id _ r' hi hn hb hr' (h1.ls n id r _ hi (fun h => hn (h2.subl id h)) hr hb hl)

theorem mem_ins {a b : Nat} {l : List Nat} : b ∈ ins a l ↔ b = a ∨ b ∈ l := by
  unfold ins
  cases he : l.elem a with
  | true =>
    have : a ∈ l := by simpa using he
    simp only [cond_true]
    constructor
    · exact .inr
    · rintro (rfl | h)
      · exact this
      · exact h
  | false => simp

theorem mem_mergeLt {n0 b : Nat} (hb : b < n0) : ∀ {r l : List Nat}, b ∈ mergeLt n0 r l ↔ b ∈ r ∨ b ∈ l
  | [], l => by simp [mergeLt]
  | a :: r, l => by
    simp only [mergeLt]
    rw [mem_mergeLt hb]
    unfold insLt
    cases ha : Nat.blt a n0 with
    | true =>
      simp only [cond_true, mem_ins, List.mem_cons]
      constructor
      · rintro (h | rfl | h)
        · exact .inl (.inr h)
        · exact .inl (.inl rfl)
        · exact .inr h
      · rintro ((rfl | h) | h)
        · exact .inr (.inl rfl)
        · exact .inl h
        · exact .inr (.inr h)
    | false =>
      have hne : b ≠ a := by
        rintro rfl
        have : Nat.blt b n0 = true := by simpa [Nat.blt_eq] using hb
        rw [this] at ha; cases ha
      simp only [cond_false, List.mem_cons]
      constructor
      · rintro (h | h)
        · exact .inl (.inr h)
        · exact .inr h
      · rintro ((rfl | h) | h)
        · exact (hne rfl).elim
        · exact .inl h
        · exact .inr h

theorem mergeLt_sub {n0 b : Nat} : ∀ {r l : List Nat}, b ∈ l → b ∈ mergeLt n0 r l
  | [], l, h => h
  | a :: r, l, h => by
    simp only [mergeLt]
    refine mergeLt_sub ?_
    unfold insLt
    cases Nat.blt a n0 with
    | true => simp only [cond_true, mem_ins]; exact .inr h
    | false => exact h

theorem stepO_law {E : Env} {K : CallK} (hE : E.ZerosOK) (hL : LawK K) {f : FuncId} {nt n0 : Nat} {ops : Array Oper} {o : Oper} {st st' : St} {c : Cl} (hs : stepO E K f nt n0 ops o st = some (st', c)) : LawSt n0 st st' := by
  unfold stepO at hs
  split at hs
  · split at hs
    · simp only [Option.some.injEq, Prod.mk.injEq] at hs
      obtain ⟨rfl, rfl⟩ := hs
      have := LawSt.refl n0 st
      exact ⟨this.len, this.subd, this.subl, this.ds, this.ls⟩
    · cases hs
  · split at hs
    · rename_i x hx
      have l := coreO_law hE hL hx
      split at hs
      · simp only [Option.some.injEq, Prod.mk.injEq] at hs
        obtain ⟨rfl, rfl⟩ := hs
        refine ⟨l.len, fun id h => mergeLt_sub h, fun id h => mergeLt_sub h, fun id hi hl hn => ?_, fun n id r r' hi hn h1 h2 h3 => ?_⟩
        · exact l.ds id hl fun h => hn ((mem_mergeLt hi).2 (.inl h))
        · exact l.ls n id r r' (fun h => hn ((mem_mergeLt hi).2 (.inl h))) h1 h2 h3
      · cases hs
    · cases hs
  · cases hs

theorem runOps_law {E : Env} {K : CallK} (hE : E.ZerosOK) (hL : LawK K) {f : FuncId} {nt n0 : Nat} {ops : Array Oper} {st' : St} {cs' : List Cl} : ∀ (os : List Oper) (st : St) (cs : List Cl), runOps E K f nt n0 ops os st cs = some (st', cs') → LawSt n0 st st'
  | [], st, cs, h => by
    simp only [runOps, Option.some.injEq, Prod.mk.injEq] at h
    obtain ⟨rfl, rfl⟩ := h
    exact LawSt.refl n0 st
  | o :: os, st, cs, h => by
    simp only [runOps] at h
    split at h
    · rename_i st1 c hs
      exact (stepO_law hE hL hs).trans (runOps_law hE hL os st1 _ h)
    · cases h

/-- What is asked of a run. -/
def LawX (n0 : Nat) (st : St) (r : Option (Ex × St)) : Prop := ∀ ex st', r = some (ex, st') → LawSt n0 st st'

theorem maskS_law {n0 : Nat} {st st' : St} {l : List Nat} (h : LawSt n0 (maskS l st) st') : LawSt n0 st st' := ⟨h.len, h.subd, h.subl, h.ds, h.ls⟩

theorem loopN_law {n0 : Nat} {body : St → Option (Ex × St)} {l : List Nat} (hb : ∀ st, LawX n0 st (body st)) : ∀ (n : Nat) (st : St), LawX n0 st (loopN body l n st)
  | 0, st, ex, st', h => by simp [loopN] at h
  | n + 1, st, ex, st', h => by
    simp only [loopN] at h
    split at h
    · rename_i st1 h1
      exact (maskS_law (hb _ _ _ h1)).trans (loopN_law hb n st1 _ _ h)
    · exact maskS_law (hb _ _ _ h)

theorem scopeN_law {n0 : Nat} {from_ : Nat → St → Option (Ex × St)} {has : Nat → Bool} {l : List Nat} (hf : ∀ g st, LawX n0 st (from_ g st)) {st0 : St} : ∀ (n : Nat) (r : Option (Ex × St)), LawX n0 st0 r → LawX n0 st0 (scopeN from_ has l n r)
  | 0, r, hr, ex, st', h => by simp [scopeN] at h
  | n + 1, r, hr, ex, st', h => by
    simp only [scopeN] at h
    split at h
    · rename_i g st1
      cases hg : has g with
      | true =>
        simp only [hg, cond_true] at h
        exact scopeN_law hf n _ (fun ex2 st2 h2 => (hr _ _ rfl).trans (maskS_law (hf g _ _ _ h2))) _ _ h
      | false =>
        simp only [hg, cond_false] at h
        exact hr _ _ h
    · exact hr _ _ h

theorem lawX_then {n0 : Nat} {st : St} {r1 : Option (Ex × St)} {k : St → Option (Ex × St)} (h1 : LawX n0 st r1) (h2 : ∀ st1, LawX n0 st1 (k st1)) :
    LawX n0 st (match (generalizing := false) r1 with | some (.normal, st') => k st' | r => r) := by
  intro ex st' h
  split at h
  · rename_i st1
    exact (h1 _ _ rfl).trans (h2 st1 _ _ h)
  · exact h1 _ _ h

theorem exec_law {E : Env} {K : CallK} (hE : E.ZerosOK) (hL : LawK K) {nl : Nat} {f : FuncId} {nt n0 : Nat} : ∀ (c : Code), (∀ st, LawX n0 st (exec E K nl f nt n0 c st)) ∧ ∀ l st, LawX n0 st (execFrom E K nl f nt n0 c l st) := by
  intro c
  have same : ∀ st ex, LawX n0 st (some (ex, st)) := fun st ex ex' st' h => by
    simp only [Option.some.injEq, Prod.mk.injEq] at h
    exact h.2 ▸ LawSt.refl n0 st
  have no : ∀ st, LawX n0 st none := fun st ex' st' h => by cases h
  induction c with
  | skip => exact ⟨fun st => by simp only [exec]; exact same st _, fun l st => by simp only [execFrom]; exact no st⟩
  | label l' =>
    refine ⟨fun st => by simp only [exec]; exact same st _, fun l st => ?_⟩
    simp only [execFrom]
    cases Nat.beq l' l
    · exact no st
    · exact same st _
  | region id ops draw =>
    refine ⟨fun st ex st' h => ?_, fun l st => by simp only [execFrom]; exact no st⟩
    simp only [exec] at h
    split at h
    · rename_i st1 cs hr
      have l := runOps_law hE hL _ _ _ hr
      cases draw with
      | true =>
        simp only [cond_true] at h
        cases hp : pairsOK cs (E.pairs f id) with
        | false => simp [hp] at h
        | true =>
          simp only [hp, cond_true, Option.some.injEq, Prod.mk.injEq] at h
          exact h.2 ▸ l
      | false =>
        simp only [cond_false, Option.some.injEq, Prod.mk.injEq] at h
        exact h.2 ▸ l
    · cases h
  | seq x y ihx ihy =>
    refine ⟨fun st => ?_, fun l st => ?_⟩
    · simp only [exec]
      exact lawX_then (ihx.1 st) ihy.1
    · simp only [execFrom]
      cases hasLabel x l with
      | true => exact lawX_then (ihx.2 l st) ihy.1
      | false => exact ihy.2 l st
  | cond c x y ihx ihy =>
    refine ⟨fun st ex st' h => ?_, fun l st => by simp only [execFrom]; exact no st⟩
    simp only [exec] at h
    split at h
    · rename_i t ht
      cases t with
      | true => exact ihx.1 st _ _ h
      | false => exact ihy.1 st _ _ h
    · cases h
  | block id x ih =>
    refine ⟨fun st ex st' h => ?_, fun l st => by simp only [execFrom]; exact no st⟩
    simp only [exec] at h
    split at h
    · rename_i i st1 h1
      have := ih.1 st _ _ h1
      cases hb : Nat.beq i id with
      | true =>
        simp only [hb, cond_true, Option.some.injEq, Prod.mk.injEq] at h
        exact h.2 ▸ this
      | false =>
        simp only [hb, cond_false, Option.some.injEq, Prod.mk.injEq] at h
        exact h.2 ▸ this
    · exact ih.1 st _ _ h
  | loop x ih =>
    refine ⟨fun st => ?_, fun l st => by simp only [execFrom]; exact no st⟩
    simp only [exec]
    exact loopN_law ih.1 nl st
  | exit id => exact ⟨fun st => by simp only [exec]; exact same st _, fun l st => by simp only [execFrom]; exact no st⟩
  | goto g => exact ⟨fun st => by simp only [exec]; exact same st _, fun l st => by simp only [execFrom]; exact no st⟩
  | ret => exact ⟨fun st => by simp only [exec]; exact same st _, fun l st => by simp only [execFrom]; exact no st⟩
  | scope x ih =>
    refine ⟨fun st => ?_, fun l st => by simp only [execFrom]; exact no st⟩
    simp only [exec]
    exact scopeN_law ih.2 nl _ (ih.1 st)
  | rangeFunc g ps x y => exact ⟨fun st => by simp only [exec]; exact no st, fun l st => by simp only [execFrom]; exact no st⟩
  | refuse why => exact ⟨fun st => by simp only [exec]; exact no st, fun l st => by simp only [execFrom]; exact no st⟩

end Go.AM
