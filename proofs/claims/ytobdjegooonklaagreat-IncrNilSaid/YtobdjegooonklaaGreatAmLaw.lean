/- What a run of the abstract machine leaves alone. Conditions: none. -/
import Derived.Test.YtobdjegooonklaaGreatAmExec
set_option linter.unusedVariables false
set_option linter.unusedSimpArgs false
namespace Go.AM
open Go

variable {fr : FR} {h : Heap} {P : Program}

mutual
/-- Every id of the heap that stands in it is below n. -/
def idlt (n : Nat) : AV → Prop
  | .v _ | .any => True
  | .agg l | .tup l | .lit _ _ l => idltL n l
  | .rop x => idlt n x
  | .fn _ p q => idltL n p ∧ idltL n q
  | .sl id .. | .isl id .. | .ptr id .. | .map id => id < n
def idltL (n : Nat) : List AV → Prop
  | [] => True
  | x :: l => idlt n x ∧ idltL n l
end

mutual
theorem idfree_lt (n : Nat) : ∀ (x : AV), idfree x = true → idlt n x
  | .v _, _ | .any, _ => by simp only [idlt]
  | .agg l, h => by simp only [idfree] at h; simp only [idlt]; exact idfreeL_lt n l h
  | .tup l, h => by simp only [idfree] at h; simp only [idlt]; exact idfreeL_lt n l h
  | .lit _ _ l, h => by simp only [idfree] at h; simp only [idlt]; exact idfreeL_lt n l h
  | .rop x, h => by simp only [idfree] at h; simp only [idlt]; exact idfree_lt n x h
  | .fn _ p q, h => by simp only [idfree, Bool.and_eq_true] at h; simp only [idlt]; exact ⟨idfreeL_lt n p h.1, idfreeL_lt n q h.2⟩
  | .sl .., h | .isl .., h | .ptr .., h | .map _, h => by simp [idfree] at h
theorem idfreeL_lt (n : Nat) : ∀ (l : List AV), idfreeL l = true → idltL n l
  | [], _ => by simp only [idltL]
  | x :: l, h => by simp only [idfreeL, Bool.and_eq_true] at h; simp only [idltL]; exact ⟨idfree_lt n x h.1, idfreeL_lt n l h.2⟩
end

mutual
theorem toV_lt (n : Nat) : ∀ (x : AV) (v : Value), toV x = some v → idlt n x
  | .v _, _, _ => by simp only [idlt]
  | .agg l, v, h => by
    simp only [toV] at h
    cases hs : toVs l with
    | none => simp [hs] at h
    | some cs => simp only [idlt]; exact toVs_lt n l cs hs
  | .tup _, _, h | .lit .., _, h | .sl .., _, h | .isl .., _, h | .ptr .., _, h | .rop _, _, h | .map _, _, h | .fn .., _, h | .any, _, h => by simp [toV] at h
theorem toVs_lt (n : Nat) : ∀ (l : List AV) (cs : List Value), toVs l = some cs → idltL n l
  | [], _, _ => by simp only [idltL]
  | x :: l, cs, h => by
    simp only [toVs] at h
    cases hx : toV x with
    | none => simp [hx] at h
    | some v =>
      cases hl : toVs l with
      | none => simp [hx, hl] at h
      | some ds => simp only [idltL]; exact ⟨toV_lt n x v hx, toVs_lt n l ds hl⟩
end

theorem idltL_iff {n : Nat} : ∀ {l : List AV}, idltL n l ↔ ∀ x ∈ l, idlt n x
  | [] => by simp [idltL]
  | x :: l => by simp [idltL, idltL_iff (l := l)]

theorem idltL_append {n : Nat} {l r : List AV} (h1 : idltL n l) (h2 : idltL n r) : idltL n (l ++ r) := by
  rw [idltL_iff] at *
  intro x hx
  rcases List.mem_append.1 hx with h | h
  · exact h1 x h
  · exact h2 x h

theorem idltL_take {n k : Nat} {l : List AV} (h1 : idltL n l) : idltL n (l.take k) := by
  rw [idltL_iff] at *
  exact fun x hx => h1 x (List.mem_of_mem_take hx)

theorem idltL_drop {n k : Nat} {l : List AV} (h1 : idltL n l) : idltL n (l.drop k) := by
  rw [idltL_iff] at *
  exact fun x hx => h1 x (List.mem_of_mem_drop hx)

theorem idltL_set {n i : Nat} {l : List AV} {x : AV} (h1 : idltL n l) (h2 : idlt n x) : idltL n (l.set i x) := by
  rw [idltL_iff] at *
  intro y hy
  rcases List.mem_or_eq_of_mem_set hy with h | h
  · exact h1 y h
  · exact h ▸ h2

theorem idltL_replicate {n k : Nat} {x : AV} (h2 : idlt n x) : idltL n (List.replicate k x) := by
  rw [idltL_iff]
  intro y hy
  rw [List.eq_of_mem_replicate hy]
  exact h2

theorem idltL_setFrom {n : Nat} : ∀ {ys l : List AV} {i : Nat}, idltL n l → idltL n ys → idltL n (setFrom l i ys)
  | [], l, i, h1, _ => by simpa [setFrom] using h1
  | y :: ys, l, i, h1, h2 => by
    simp only [idltL] at h2
    simp only [setFrom]
    exact idltL_setFrom (idltL_set h1 h2.1) h2.2

mutual
theorem put_lt (n : Nat) : ∀ (z : AV) (p : List Nat) (o : Nat) (x z' : AV), put z p o x = some z' → idlt n z → idlt n x → idlt n z'
  | z, [], o, x, z', h, hz, hx => by
    unfold put at h
    cases hb : (Nat.beq o 0 && Nat.beq (leafs z) (leafs x)) with
    | false => simp [hb] at h
    | true => simp [hb] at h; exact h ▸ hx
  | .agg l, f :: p, o, x, z', h, hz, hx => by
    simp only [put] at h
    split at h
    · rename_i l' hl
      simp only [Option.some.injEq] at h
      subst h
      simp only [idlt] at hz ⊢
      exact putL_lt n l f p o x l' hl hz hx
    · cases h
  | .v _, _ :: _, _, _, _, h, _, _ | .tup _, _ :: _, _, _, _, h, _, _ | .lit .., _ :: _, _, _, _, h, _, _ | .sl .., _ :: _, _, _, _, h, _, _ | .isl .., _ :: _, _, _, _, h, _, _
  | .ptr .., _ :: _, _, _, _, h, _, _ | .rop _, _ :: _, _, _, _, h, _, _ | .map _, _ :: _, _, _, _, h, _, _ | .fn .., _ :: _, _, _, _, h, _, _ | .any, _ :: _, _, _, _, h, _, _ => by simp [put] at h
theorem putL_lt (n : Nat) : ∀ (l : List AV) (f : Nat) (p : List Nat) (o : Nat) (x : AV) (l' : List AV), putL l f p o x = some l' → idltL n l → idlt n x → idltL n l'
  | [], _, _, _, _, _, h, _, _ => by simp [putL] at h
  | y :: l, 0, p, o, x, l', h, hl, hx => by
    simp only [putL] at h
    simp only [idltL] at hl
    split at h
    · rename_i y' hy
      simp only [Option.some.injEq] at h
      subst h
      simp only [idltL]
      exact ⟨put_lt n y p o x y' hy hl.1 hx, hl.2⟩
    · cases h
  | y :: l, f + 1, p, o, x, l', h, hl, hx => by
    simp only [putL] at h
    simp only [idltL] at hl
    cases hb : Nat.ble (leafs y) o with
    | false => simp [hb] at h
    | true =>
      simp only [hb, cond_true] at h
      split at h
      · rename_i l2 h2
        simp only [Option.some.injEq] at h
        subst h
        simp only [idltL]
        exact ⟨hl.1, putL_lt n l f p _ x l2 h2 hl.2 hx⟩
      · cases h
end

mutual
theorem nav_lt (n : Nat) : ∀ (z : AV) (p : List Nat) (o : Nat) (x : AV), nav z p o = some x → idlt n z → idlt n x
  | z, [], o, x, h, hz => by
    unfold nav at h
    cases hb : Nat.beq o 0 with
    | false => simp [hb] at h
    | true => simp [hb] at h; exact h ▸ hz
  | .agg l, f :: p, o, x, h, hz => by
    simp only [nav] at h
    simp only [idlt] at hz
    exact navL_lt n l f p o x h hz
  | .v _, _ :: _, _, _, h, _ | .tup _, _ :: _, _, _, h, _ | .lit .., _ :: _, _, _, h, _ | .sl .., _ :: _, _, _, h, _ | .isl .., _ :: _, _, _, h, _
  | .ptr .., _ :: _, _, _, h, _ | .rop _, _ :: _, _, _, h, _ | .map _, _ :: _, _, _, h, _ | .fn .., _ :: _, _, _, h, _ | .any, _ :: _, _, _, h, _ => by simp [nav] at h
theorem navL_lt (n : Nat) : ∀ (l : List AV) (f : Nat) (p : List Nat) (o : Nat) (x : AV), navL l f p o = some x → idltL n l → idlt n x
  | [], _, _, _, _, h, _ => by simp [navL] at h
  | y :: l, 0, p, o, x, h, hl => by
    simp only [navL] at h
    simp only [idltL] at hl
    exact nav_lt n y p o x h hl.1
  | y :: l, f + 1, p, o, x, h, hl => by
    simp only [navL] at h
    simp only [idltL] at hl
    cases hb : Nat.ble (leafs y) o with
    | false => simp [hb] at h
    | true =>
      simp only [hb, cond_true] at h
      exact navL_lt n l f p _ x h hl.2
end

def rowLt (n : Nat) : Row → Prop
  | .row _ _ els _ => idltL n els
  | .map es _ => ∀ e ∈ es, idlt n e.1 ∧ idlt n e.2.1
  | .dead => True

structure Law (h h' : Heap) (ds ls : List Nat) : Prop where
  len : h.length ≤ h'.length
  ds : ∀ id, id < h.length → id ∉ ds → h'[id]? = h[id]?
  ls : ∀ n id r r', id ∉ ls → h[id]? = some r → h'[id]? = some r' → rowLt n r → rowLt n r'

theorem Law.refl (h : Heap) : Law h h [] [] := ⟨Nat.le_refl _, fun _ _ _ => rfl, fun n id r r' _ h1 h2 h3 => by rw [h1] at h2; injection h2 with h2; exact h2 ▸ h3⟩

theorem Law.new (h : Heap) (r : Row) : Law h (h ++ [r]) [] [] := by
  refine ⟨by simp, fun id hi _ => by rw [List.getElem?_append_left hi], fun n id r1 r2 _ h1 h2 h3 => ?_⟩
  have hi := (List.getElem?_eq_some_iff.1 h1).1
  rw [List.getElem?_append_left hi, h1] at h2
  injection h2 with h2
  exact h2 ▸ h3

theorem Law.set {h : Heap} {id : Nat} {r r' : Row} {b : Bool} (hr : h[id]? = some r) (hb : b = false → ∀ n, rowLt n r → rowLt n r') : Law h (h.set id r') [id] (bif b then [id] else []) := by
  have hi := (List.getElem?_eq_some_iff.1 hr).1
  refine ⟨by simp, fun j hj hn => ?_, fun n j r1 r2 hn h1 h2 h3 => ?_⟩
  · rw [List.getElem?_set_ne]
    intro e
    exact hn (by simp [e])
  · by_cases e : id = j
    · subst e
      rw [List.getElem?_set_self hi] at h2
      rw [hr] at h1
      injection h1 with h1
      injection h2 with h2
      subst h1; subst h2
      cases b with
      | false => exact hb rfl n h3
      | true => exact (hn (by simp)).elim
    · rw [List.getElem?_set_ne e, h1] at h2
      injection h2 with h2
      exact h2 ▸ h3

def LawS (h h' : Heap) : Option (Nat × Bool) → Prop
  | none => Law h h' [] []
  | some (id, b) => Law h h' [id] (bif b then [id] else [])

theorem outOf_law {y : AV} {h' : Heap} {s : Option (Nat × Bool)} {c : Cl} {x : Out} (e : outOf y h' s c = x) (l : LawS h h' s) : Law h x.h x.ds x.ls := by
  subst e
  cases s with
  | none => exact l
  | some p => exact l

/-! ### The operations that call nothing -/
def LawR (h : Heap) (r : Option (AV × Heap × Option (Nat × Bool))) : Prop := ∀ y h' s, r = some (y, h', s) → LawS h h' s
theorem lawR_none : LawR h none := fun _ _ _ e => by cases e
theorem lawR_same {y : AV} : LawR h (some (y, h, none)) := fun _ _ _ e => by
  simp only [Option.some.injEq, Prod.mk.injEq] at e
  obtain ⟨rfl, rfl, rfl⟩ := e
  exact Law.refl h
theorem lawR_new {y : AV} {r : Row} : LawR h (some (y, h ++ [r], none)) := fun _ _ _ e => by
  simp only [Option.some.injEq, Prod.mk.injEq] at e
  obtain ⟨rfl, rfl, rfl⟩ := e
  exact Law.new h r
theorem lawR_newRow {y : AV} {k : Nat} {els : List AV} {ex : Tag} : LawR h (some (y, newRow h k els ex, none)) := lawR_new
theorem lawR_cond {b : Bool} {r r' : Option (AV × Heap × Option (Nat × Bool))} (h1 : LawR h r) (h2 : LawR h r') : LawR h (bif b then r else r') := by
  cases b
  · exact h2
  · exact h1

theorem storeE_law {t : TypeId} {a x : AV} {h' : Heap} {id : Nat} (hs : storeE P h t a x = some (h', id)) : Law h h' [id] (bif !idfree x then [id] else []) := by
  unfold storeE at hs
  split at hs
  · rename_i id' gen i p o n hn
    split at hs
    · rename_i k g els ex hr
      cases hb : (Nat.beq g gen && Nat.beq (leafs x) n && !isTupA x) with
      | false => simp [hb] at hs
      | true =>
        simp only [hb, cond_true] at hs
        split at hs
        · rename_i z hz
          split at hs
          · rename_i z' hp
            simp only [Option.some.injEq, Prod.mk.injEq] at hs
            obtain ⟨rfl, rfl⟩ := hs
            refine Law.set hr fun hf n hl => ?_
            have hf' : idfree x = true := by simpa using hf
            simp only [rowLt] at hl ⊢
            exact idltL_set hl (put_lt n _ _ _ _ _ hp (idltL_iff.1 hl _ (List.mem_of_getElem? hz)) (idfree_lt n x hf'))
          · cases hs
        · cases hs
    · cases hs
  · cases hs

theorem opE_law {E : Env} {f : FuncId} {o : Oper} : LawR h (opE E f fr h o) := by
  obtain ⟨dst, op, type, pos, after, guard⟩ := o
  cases op
  case store t x z =>
    intro y h' s ho
    simp only [opE] at ho
    split at ho
    · split at ho
      · rename_i h1 id hs
        simp only [Option.some.injEq, Prod.mk.injEq] at ho
        obtain ⟨rfl, rfl, rfl⟩ := ho
        exact storeE_law hs
      · cases ho
    · cases ho
  all_goals
    simp only [opE]
    repeat' (first | exact lawR_none | exact lawR_same | exact lawR_newRow | exact lawR_new | apply lawR_cond | contradiction | split)

end Go.AM
