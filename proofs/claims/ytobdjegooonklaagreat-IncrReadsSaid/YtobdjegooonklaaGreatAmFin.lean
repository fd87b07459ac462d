/- What a call gives back: fresh rows frozen. Conditions: none. -/
import Derived.Test.YtobdjegooonklaaGreatAmLaw
set_option linter.unusedVariables false
set_option linter.unusedSimpArgs false
namespace Go.AM
open Go

variable {F F' : Fz} {m m' : Mp} {fr : FR} {a : Act} {h : Heap} {w : World} {P : Program}

/-! ### A value told of other memory -/
structure Move (n : Nat) (F : Fz) (m : Mp) (F' : Fz) (m' : Mp) : Prop where
  fz : ∀ b c e f, F b = some (.cells c e f) → F' b = some (.cells c e f)
  row : ∀ id gen x, id < n → m.row id gen = some x → m'.row id gen = some x
  map : ∀ id x, id < n → m.map id = some x → m'.map id = some x

theorem FC.move {a : Addr} {cs : List Value} {n : Nat} (mv : Move n F m F' m') (h : FC F a cs) : FC F' a cs := fun j v hj => by
  obtain ⟨c, e, fr, h1, h2⟩ := h j v hj
  exact ⟨c, e, fr, mv.fz _ _ _ _ h1, h2⟩

mutual
theorem VRel.move {n : Nat} (mv : Move n F m F' m') : ∀ (x : AV) (y : Value), idlt n x → VRel F m x y → VRel F' m' x y
  | .v _, _, _, h => by simpa [VRel] using h
  | .agg l, y, hl, h => by
    simp only [VRel] at h ⊢
    simp only [idlt] at hl
    obtain ⟨cs, h1, h2⟩ := h
    exact ⟨cs, CL.move mv l cs hl h1, h2⟩
  | .tup l, y, hl, h => by
    simp only [VRel] at h ⊢
    simp only [idlt] at hl
    obtain ⟨ys, h1, h2⟩ := h
    exact ⟨ys, VL.move mv l ys hl h1, h2⟩
  | .lit k full l, y, hl, h => by
    simp only [VRel] at h ⊢
    simp only [idlt] at hl
    obtain ⟨a, cap, cs, h1, h2, h3, h4⟩ := h
    exact ⟨a, cap, cs, CL.move mv l cs hl h1, h2, h3.move mv, h4⟩
  | .sl id gen off len, y, hl, h => by
    simp only [VRel] at h ⊢
    simp only [idlt] at hl
    obtain ⟨g, C, k, a, h1, h2⟩ := h
    exact ⟨g, C, k, a, mv.row _ _ _ hl h1, h2⟩
  | .isl id gen i p o k off len n, y, hl, h => by
    simp only [VRel] at h ⊢
    simp only [idlt] at hl
    obtain ⟨g, C, K, a, h1, h2⟩ := h
    exact ⟨g, C, K, a, mv.row _ _ _ hl h1, h2⟩
  | .ptr id gen i p o, y, hl, h => by
    simp only [VRel] at h ⊢
    simp only [idlt] at hl
    obtain ⟨g, C, k, h1, h2⟩ := h
    exact ⟨g, C, k, mv.row _ _ _ hl h1, h2⟩
  | .rop x, y, hl, h => by
    simp only [VRel] at h ⊢
    simp only [idlt] at hl
    obtain ⟨a, z, h1, h2, h3, h4⟩ := h
    exact ⟨a, z, VRel.move mv x z hl h1, h2, h3.move mv, h4⟩
  | .map id, y, hl, h => by
    simp only [VRel] at h ⊢
    simp only [idlt] at hl
    obtain ⟨g, h1, h2⟩ := h
    exact ⟨g, mv.map _ _ hl h1, h2⟩
  | .fn f p q, y, hl, h => by
    simp only [VRel] at h ⊢
    simp only [idlt] at hl
    obtain ⟨xs, ys, h1, h2, h3⟩ := h
    exact ⟨xs, ys, VL.move mv p xs hl.1 h1, VL.move mv q ys hl.2 h2, h3⟩
  | .any, y, _, h => by simpa [VRel] using h
theorem CL.move {n : Nat} (mv : Move n F m F' m') : ∀ (l : List AV) (cs : List Value), idltL n l → CL F m l cs → CL F' m' l cs
  | [], _, _, h => by simpa [CL] using h
  | x :: l, cs, hl, h => by
    simp only [CL] at h ⊢
    simp only [idltL] at hl
    obtain ⟨y, ds, h1, h2, h3, h4⟩ := h
    exact ⟨y, ds, VRel.move mv x y hl.1 h1, h2, CL.move mv l ds hl.2 h3, h4⟩
theorem VL.move {n : Nat} (mv : Move n F m F' m') : ∀ (l : List AV) (ys : List Value), idltL n l → VL F m l ys → VL F' m' l ys
  | [], _, _, h => by simpa [VL] using h
  | x :: l, cs, hl, h => by
    simp only [VL] at h ⊢
    simp only [idltL] at hl
    obtain ⟨y, ds, h1, h2, h3⟩ := h
    exact ⟨y, ds, VRel.move mv x y hl.1 h1, VL.move mv l ds hl.2 h2, h3⟩
end

mutual
theorem VRel.lt {n : Nat} (hr : ∀ id gen, m.row id gen ≠ none → id < n) (hm : ∀ id, m.map id ≠ none → id < n) : ∀ (x : AV) (y : Value), VRel F m x y → idlt n x
  | .v _, _, h | .any, _, h => by simp only [idlt]
  | .agg l, y, h => by
    simp only [VRel] at h
    obtain ⟨cs, h1, h2⟩ := h
    simp only [idlt]; exact CL.lt hr hm l cs h1
  | .tup l, y, h => by
    simp only [VRel] at h
    obtain ⟨cs, h1, h2⟩ := h
    simp only [idlt]; exact VL.lt hr hm l cs h1
  | .lit k full l, y, h => by
    simp only [VRel] at h
    obtain ⟨a, cap, cs, h1, h2⟩ := h
    simp only [idlt]; exact CL.lt hr hm l cs h1
  | .sl id gen off len, y, h => by
    simp only [VRel] at h
    obtain ⟨g, C, k, a, h1, h2⟩ := h
    simp only [idlt]; exact hr id gen (by rw [h1]; simp)
  | .isl id gen i p o k off len _, y, h => by
    simp only [VRel] at h
    obtain ⟨g, C, k, a, h1, h2⟩ := h
    simp only [idlt]; exact hr id gen (by rw [h1]; simp)
  | .ptr id gen i p o, y, h => by
    simp only [VRel] at h
    obtain ⟨g, C, k, h1, h2⟩ := h
    simp only [idlt]; exact hr id gen (by rw [h1]; simp)
  | .rop x, y, h => by
    simp only [VRel] at h
    obtain ⟨a, z, h1, h2⟩ := h
    simp only [idlt]; exact VRel.lt hr hm x z h1
  | .map id, y, h => by
    simp only [VRel] at h
    obtain ⟨g, h1, h2⟩ := h
    simp only [idlt]; exact hm id (by rw [h1]; simp)
  | .fn f p q, y, h => by
    simp only [VRel] at h
    obtain ⟨xs, ys, h1, h2, h3⟩ := h
    simp only [idlt]; exact ⟨VL.lt hr hm p xs h1, VL.lt hr hm q ys h2⟩
theorem CL.lt {n : Nat} (hr : ∀ id gen, m.row id gen ≠ none → id < n) (hm : ∀ id, m.map id ≠ none → id < n) : ∀ (l : List AV) (cs : List Value), CL F m l cs → idltL n l
  | [], _, _ => by simp only [idltL]
  | x :: l, cs, h => by
    simp only [CL] at h
    obtain ⟨y, ds, h1, h2, h3, h4⟩ := h
    simp only [idltL]; exact ⟨VRel.lt hr hm x y h1, CL.lt hr hm l ds h3⟩
theorem VL.lt {n : Nat} (hr : ∀ id gen, m.row id gen ≠ none → id < n) (hm : ∀ id, m.map id ≠ none → id < n) : ∀ (l : List AV) (ys : List Value), VL F m l ys → idltL n l
  | [], _, _ => by simp only [idltL]
  | x :: l, cs, h => by
    simp only [VL] at h
    obtain ⟨y, ds, h1, h2, h3⟩ := h
    simp only [idltL]; exact ⟨VRel.lt hr hm x y h1, VL.lt hr hm l ds h2⟩
end

theorem EntR_lt {n : Nat} (hr : ∀ id gen, m.row id gen ≠ none → id < n) (hm : ∀ id, m.map id ≠ none → id < n) : ∀ {es : List (AV × AV × Nat)} {l : List MapEntry}, EntR F m es l → ∀ e ∈ es, idlt n e.1 ∧ idlt n e.2.1
  | [], _, _, e, he => by simp at he
  | (k, x, b) :: es, l, h, e, he => by
    simp only [EntR] at h
    obtain ⟨e0, r, h1, h2, h3, h4, h5⟩ := h
    rcases List.mem_cons.1 he with rfl | he
    · exact ⟨VRel.lt hr hm _ _ h1, VRel.lt hr hm _ _ h2⟩
    · exact EntR_lt hr hm h4 e he

theorem EntR_move {n : Nat} (mv : Move n F m F' m') : ∀ {es : List (AV × AV × Nat)} {l : List MapEntry}, (∀ e ∈ es, idlt n e.1 ∧ idlt n e.2.1) → EntR F m es l → EntR F' m' es l
  | [], _, _, h => by simpa [EntR] using h
  | (k, x, b) :: es, l, hl, h => by
    simp only [EntR] at h ⊢
    obtain ⟨e0, r, h1, h2, h3, h4, h5⟩ := h
    have := hl (k, x, b) (by simp)
    exact ⟨e0, r, VRel.move mv _ _ this.1 h1, VRel.move mv _ _ this.2 h2, h3, EntR_move mv (fun e he => hl e (by simp [he])) h4, h5⟩

theorem Rel.rowLt (r : Rel F m h w) {id : Nat} {x : Row} (hx : h[id]? = some x) : rowLt h.length x := by
  cases x with
  | row k gen els ex =>
    obtain ⟨g, C, e, cur, xr⟩ := r.row _ _ _ _ _ hx
    simp only [AM.rowLt]
    exact CL.lt r.fresh r.freshM _ _ xr.cells
  | map es c =>
    obtain ⟨g, ents, xm⟩ := r.map _ _ _ hx
    simp only [AM.rowLt]
    exact EntR_lt r.fresh r.freshM xm.ents
  | dead => trivial

/-! ### Old rows kept, new ones frozen -/
def OwnB (h : Heap) (m : Mp) (n : Nat) (b : Nat) : Prop := ∃ id, id < n ∧ ((∃ k gen els ex C r, h[id]? = some (.row k gen els ex) ∧ m.row id gen = some (b, C, r)) ∨ ∃ es c, h[id]? = some (.map es c) ∧ m.map id = some b)
open Classical in
noncomputable def frF (F : Fz) (m : Mp) (h : Heap) (n : Nat) (w : World) : Fz := fun b => if OwnB h m n b then F b else w.heap[b]?
def cut (m : Mp) (n : Nat) : Mp := ⟨fun id gen => if id < n then m.row id gen else none, fun id => if id < n then m.map id else none⟩

theorem frF_own {n b : Nat} (hb : OwnB h m n b) : frF F m h n w b = F b := by unfold frF; rw [if_pos hb]
theorem frF_new {n b : Nat} (hb : ¬ OwnB h m n b) : frF F m h n w b = w.heap[b]? := by unfold frF; rw [if_neg hb]

theorem frF_fz (r : Rel F m h w) (n : Nat) : ∀ b o, F b = some o → frF F m h n w b = some o := by
  intro b o hb
  by_cases ho : OwnB h m n b
  · rw [frF_own ho]; exact hb
  · rw [frF_new ho]; exact r.fz b o hb

theorem move_cut (r : Rel F m h w) (n : Nat) : Move n F m (frF F m h n w) (cut m n) :=
  ⟨fun b c e f hb => frF_fz r n b _ hb, fun id gen x hi hx => by simp [cut, hi, hx], fun id x hi hx => by simp [cut, hi, hx]⟩

theorem not_own (r : Rel F m h w) {n id k gen g C : Nat} {els : List AV} {ex : Tag} {e : TypeId} {cur : Array Value} (hn : n ≤ id) (hr : h[id]? = some (.row k gen els ex)) (x : RowR F m w id k gen els ex g C e cur) : ¬ OwnB h m n g := by
  rintro ⟨id', h1, ⟨k', gen', els', ex', C', r', h2, h3⟩ | ⟨es, c, h2, h3⟩⟩
  · have := r.inj id id' k gen els ex k' gen' els' ex' g C C' k r' hr h2 x.mp h3
    omega
  · obtain ⟨g', ents, xm⟩ := r.map _ _ _ h2
    have := xm.mp
    rw [h3] at this
    injection this with this
    subst this
    have := xm.heap
    rw [x.heap] at this
    cases this

theorem Rel.freeze (r : Rel F m h w) {n : Nat} {h' : Heap} (hl : h'.length = n) (hh : ∀ id, id < n → h'[id]? = h[id]?) (hlt : ∀ id x, id < n → h[id]? = some x → AM.rowLt n x) : Rel (frF F m h n w) (cut m n) h' w := by
  have mv := move_cut r n
  have dn : ∀ {id : Nat} {x : Row}, h'[id]? = some x → id < n ∧ h[id]? = some x := fun {id x} hx => by
    have hi : id < n := by have := (List.getElem?_eq_some_iff.1 hx).1; omega
    exact ⟨hi, by rw [← hh id hi]; exact hx⟩
  refine ⟨fun b o hb => ?_, fun id k gen els ex hr => ?_, fun id es c hr => ?_, fun id gen hi => ?_, fun id hi => ?_, ?_, ?_⟩
  · by_cases ho : OwnB h m n b
    · rw [frF_own ho] at hb; exact r.fz b o hb
    · rw [frF_new ho] at hb; exact hb
  · obtain ⟨hi, hr'⟩ := dn hr
    obtain ⟨g, C, e, cur, x⟩ := r.row _ _ _ _ _ hr'
    have ho : OwnB h m n g := ⟨id, hi, .inl ⟨k, gen, els, ex, C, k, hr', x.mp⟩⟩
    refine ⟨g, C, e, cur, ⟨mv.row _ _ _ hi x.mp, x.pos, x.heap, by rw [frF_own ho]; exact x.own, x.size, x.len, x.exact, x.ty, x.most, x.all, CL.move mv _ _ (hlt id _ hi hr') x.cells, fun gen' hg => ?_⟩⟩
    simp only [cut, hi, if_true] at hg
    exact x.gens gen' hg
  · obtain ⟨hi, hr'⟩ := dn hr
    obtain ⟨g, ents, x⟩ := r.map _ _ _ hr'
    have ho : OwnB h m n g := ⟨id, hi, .inr ⟨es, c, hr', x.mp⟩⟩
    exact ⟨g, ents, ⟨mv.map _ _ hi x.mp, x.heap, by rw [frF_own ho]; exact x.own, EntR_move mv (hlt id _ hi hr') x.ents⟩⟩
  · rw [hl]
    simp only [cut] at hi
    split at hi
    · assumption
    · exact (hi rfl).elim
  · rw [hl]
    simp only [cut] at hi
    split at hi
    · assumption
    · exact (hi rfl).elim
  · intro id id' k gen els ex k' gen' els' ex' g C C' q q' h1 h2 h3 h4
    obtain ⟨i1, h1⟩ := dn h1
    obtain ⟨i2, h2⟩ := dn h2
    simp only [cut, i1, i2, if_true] at h3 h4
    exact r.inj id id' k gen els ex k' gen' els' ex' g C C' q q' h1 h2 h3 h4
  · intro id id' es c es' c' g h1 h2 h3 h4
    obtain ⟨i1, h1⟩ := dn h1
    obtain ⟨i2, h2⟩ := dn h2
    simp only [cut, i1, i2, if_true] at h3 h4
    exact r.injM id id' es c es' c' g h1 h2 h3 h4

theorem frozen_els (r : Rel F m h w) {n : Nat} {x : AV} {v : Value} {k g C k0 gen id : Nat} {els0 : List AV} {ex : Tag} {e : TypeId} {cur : Array Value} {l : List AV} {ad : Addr} {cap : Nat} {cs : List Value} (el : Els F m w k l v ad cap cs)
    (hn : n ≤ id) (hr : h[id]? = some (.row k0 gen els0 ex)) (xr : RowR F m w id k0 gen els0 ex g C e cur) (hb : ad.block = g) (hf : idfreeL l = true) : VRel (frF F m h n w) (cut m n) (.lit k false l) v := by
  simp only [VRel]
  refine ⟨ad, cap, cs, CL.move (move_cut r n) l cs (idfreeL_lt n l hf) el.cells, el.all, fun j c hj => ?_, el.spot, el.cap, by simp, el.val⟩
  have := el.mem j c hj
  rw [add_any el.spot] at this
  refine ⟨cur, e, (0, 0), by rw [hb, frF_new (not_own r hn hr xr)]; exact xr.heap, ?_⟩
  simpa [World.cell?, hb, xr.heap] using this

mutual
theorem frz_rel (r : Rel F m h w) (n : Nat) : ∀ (x x' : AV) (y : Value), frz n h x = some x' → VRel F m x y → VRel (frF F m h n w) (cut m n) x' y
  | .v z, x', y, hf, hv => by
    simp only [frz, Option.some.injEq] at hf
    subst hf
    exact VRel.move (move_cut r n) _ _ (by simp only [idlt]) hv
  | .any, x', y, hf, hv => by
    simp only [frz, Option.some.injEq] at hf
    subst hf
    exact VRel.move (move_cut r n) _ _ (by simp only [idlt]) hv
  | .agg l, x', y, hf, hv => by
    simp only [frz] at hf
    split at hf
    · rename_i l' hl
      simp only [Option.some.injEq] at hf
      subst hf
      simp only [VRel] at hv ⊢
      obtain ⟨cs, h1, h2⟩ := hv
      exact ⟨cs, frzL_cl r n l l' cs hl h1, h2⟩
    · cases hf
  | .tup l, x', y, hf, hv => by
    simp only [frz] at hf
    split at hf
    · rename_i l' hl
      simp only [Option.some.injEq] at hf
      subst hf
      simp only [VRel] at hv ⊢
      obtain ⟨cs, h1, h2⟩ := hv
      exact ⟨cs, frzL_vl r n l l' cs hl h1, h2⟩
    · cases hf
  | .lit k b l, x', y, hf, hv => by
    simp only [frz] at hf
    cases hb : idfreeL l with
    | false => simp [hb] at hf
    | true =>
      simp only [hb, cond_true, Option.some.injEq] at hf
      subst hf
      exact VRel.move (move_cut r n) _ _ (by simp only [idlt]; exact idfreeL_lt n l hb) hv
  | .rop x, x', y, hf, hv => by
    simp only [frz] at hf
    cases hb : idfree x with
    | false => simp [hb] at hf
    | true =>
      simp only [hb, cond_true, Option.some.injEq] at hf
      subst hf
      exact VRel.move (move_cut r n) _ _ (by simp only [idlt]; exact idfree_lt n x hb) hv
  | .sl id gen off len, x', y, hf, hv => by
    simp only [frz] at hf
    cases hb : Nat.blt id n with
    | true =>
      simp only [hb, cond_true, Option.some.injEq] at hf
      subst hf
      exact VRel.move (move_cut r n) _ _ (by simp only [idlt]; simpa [Nat.blt_eq] using hb) hv
    | false =>
      simp only [hb, cond_false] at hf
      have hn : n ≤ id := by
        rcases Nat.lt_or_ge id n with h1 | h1
        · have : Nat.blt id n = true := by simpa [Nat.blt_eq] using h1
          rw [this] at hb; cases hb
        · exact h1
      split at hf
      · rename_i k l he
        cases hi : idfreeL l with
        | false => simp [hi] at hf
        | true =>
          simp only [hi, cond_true, Option.some.injEq] at hf
          subst hf
          obtain ⟨ad, cap, cs, el⟩ := elsOf_rel r he hv
          have he' := he
          simp only [elsOf] at he'
          split at he'
          · rename_i k0 g0 els0 ex hr
            cases hg : Nat.beq g0 gen with
            | false => simp [hg] at he'
            | true =>
              have e1 := Nat.eq_of_beq_eq_true hg
              subst e1
              obtain ⟨g, C, e, cur, ad', xr, _, h2, _, _, h5⟩ := sl_row r hv hr
              have := el.val
              rw [h5] at this
              injection this with this
              injection this with this
              subst this
              exact frozen_els (x := .sl id g0 off len) r el hn hr xr h2 hi
          · cases he'
      · cases hf
  | .isl id gen i p o kk off len nn, x', y, hf, hv => by
    simp only [frz] at hf
    cases hb : Nat.blt id n with
    | true =>
      simp only [hb, cond_true, Option.some.injEq] at hf
      subst hf
      exact VRel.move (move_cut r n) _ _ (by simp only [idlt]; simpa [Nat.blt_eq] using hb) hv
    | false =>
      simp only [hb, cond_false] at hf
      have hn : n ≤ id := by
        rcases Nat.lt_or_ge id n with h1 | h1
        · have : Nat.blt id n = true := by simpa [Nat.blt_eq] using h1
          rw [this] at hb; cases hb
        · exact h1
      split at hf
      · rename_i k l he
        cases hi : idfreeL l with
        | false => simp [hi] at hf
        | true =>
          simp only [hi, cond_true, Option.some.injEq] at hf
          subst hf
          obtain ⟨ad, cap, cs, el⟩ := elsOf_rel r he hv
          have he' := he
          simp only [elsOf] at he'
          split at he'
          · rename_i k0 g0 els0 ex hr
            cases hg : Nat.beq g0 gen with
            | false => simp [hg] at he'
            | true =>
              have e1 := Nat.eq_of_beq_eq_true hg
              subst e1
              obtain ⟨g, C, e, cur, ad', xr, _, h2, _, _, h5⟩ := isl_row r hv hr
              have := el.val
              rw [h5] at this
              injection this with this
              injection this with this
              subst this
              exact frozen_els (x := .sl id g0 off len) r el hn hr xr h2 hi
          · cases he'
      · cases hf
  | .ptr id gen i p o, x', y, hf, hv => by
    simp only [frz] at hf
    cases hb : Nat.blt id n with
    | false => simp [hb] at hf
    | true =>
      simp only [hb, cond_true, Option.some.injEq] at hf
      subst hf
      exact VRel.move (move_cut r n) _ _ (by simp only [idlt]; simpa [Nat.blt_eq] using hb) hv
  | .map id, x', y, hf, hv => by
    simp only [frz] at hf
    cases hb : Nat.blt id n with
    | false => simp [hb] at hf
    | true =>
      simp only [hb, cond_true, Option.some.injEq] at hf
      subst hf
      exact VRel.move (move_cut r n) _ _ (by simp only [idlt]; simpa [Nat.blt_eq] using hb) hv
  | .fn g p q, x', y, hf, hv => by
    simp only [frz] at hf
    cases hb : (idfreeL p && idfreeL q) with
    | false => simp [hb] at hf
    | true =>
      simp only [hb, cond_true, Option.some.injEq] at hf
      subst hf
      rw [Bool.and_eq_true] at hb
      exact VRel.move (move_cut r n) _ _ (by simp only [idlt]; exact ⟨idfreeL_lt n p hb.1, idfreeL_lt n q hb.2⟩) hv
theorem frzL_cl (r : Rel F m h w) (n : Nat) : ∀ (l l' : List AV) (cs : List Value), frzL n h l = some l' → CL F m l cs → CL (frF F m h n w) (cut m n) l' cs
  | [], l', cs, hf, hv => by
    simp only [frzL, Option.some.injEq] at hf
    subst hf
    simpa [CL] using hv
  | x :: l, l', cs, hf, hv => by
    simp only [frzL] at hf
    split at hf
    · rename_i y ys h1 h2
      simp only [Option.some.injEq] at hf
      subst hf
      simp only [CL] at hv ⊢
      obtain ⟨z, ds, g1, g2, g3, g4⟩ := hv
      exact ⟨z, ds, frz_rel r n x y z h1 g1, g2, frzL_cl r n l ys ds h2 g3, g4⟩
    · cases hf
theorem frzL_vl (r : Rel F m h w) (n : Nat) : ∀ (l l' : List AV) (cs : List Value), frzL n h l = some l' → VL F m l cs → VL (frF F m h n w) (cut m n) l' cs
  | [], l', cs, hf, hv => by
    simp only [frzL, Option.some.injEq] at hf
    subst hf
    simpa [VL] using hv
  | x :: l, l', cs, hf, hv => by
    simp only [frzL] at hf
    split at hf
    · rename_i y ys h1 h2
      simp only [Option.some.injEq] at hf
      subst hf
      simp only [VL] at hv ⊢
      obtain ⟨z, ds, g1, g2, g3⟩ := hv
      exact ⟨z, ds, frz_rel r n x y z h1 g1, frzL_vl r n l ys ds h2 g2, g3⟩
    · cases hf
end

/-- WHAT A CALL GIVES BACK. -/
theorem finish_sound {F2 : Fz} {m2 : Mp} {w2 : World} {h0 : Heap} {st0 st : St} {keep : Bool} {r y : AV} {h' : Heap} {e : Eff} {v : Value} (r0 : Rel F m h0 w) (r2 : Rel F2 m2 st.h w2) (ex : Ext F m F2 m2) (hs : st0.h = h0) (hd : st0.ds = []) (hl : st0.ls = []) (law : LawSt h0.length st0 st)
    (hv : VRel F2 m2 r v) (hf : finish keep h0 st r = (y, h', e)) : ∃ F' m', Ext F m F' m' ∧ VRel F' m' y v ∧ Rel F' m' h' w2 := by
  unfold finish at hf
  cases keep with
  | true =>
    simp only [cond_true, Prod.mk.injEq] at hf
    obtain ⟨rfl, rfl, rfl⟩ := hf
    exact ⟨F2, m2, ex, hv, r2⟩
  | false =>
    simp only [cond_false] at hf
    split at hf
    · rename_i hls
      split at hf
      · rename_i r' hfr
        have hlen : h0.length ≤ st.h.length := by rw [← hs]; exact law.len
        have hlt : ∀ id x, id < h0.length → st.h[id]? = some x → AM.rowLt h0.length x := fun id x hi hx => by
          have hi0 : id < st0.h.length := by rw [hs]; exact hi
          have h0x : st0.h[id]? = some st0.h[id] := List.getElem?_eq_getElem hi0
          exact law.ls h0.length id _ x hi (by rw [hls]; simp) h0x hx (r0.rowLt (by rw [← hs]; exact h0x))
        have ext : Ext F m (frF F2 m2 st.h h0.length w2) (cut m2 h0.length) := by
          have mv := move_cut r2 h0.length
          refine ⟨fun b o hb => frF_fz r2 h0.length b o (ex.fz b o hb), fun id gen x hx => ?_, fun id x hx => ?_⟩
          · exact mv.row id gen x (r0.fresh id gen (by rw [hx]; simp)) (ex.row id gen x hx)
          · exact mv.map id x (r0.freshM id (by rw [hx]; simp)) (ex.map id x hx)
        have hvr := frz_rel r2 h0.length r r' v hfr hv
        split at hf
        · rename_i hds
          simp only [Prod.mk.injEq] at hf
          obtain ⟨rfl, rfl, rfl⟩ := hf
          refine ⟨_, _, ext, hvr, r2.freeze rfl (fun id hi => ?_) hlt⟩
          have := law.ds id hi (by rw [hs]; exact hi) (by rw [hds]; simp)
          rw [this, hs]
        · simp only [Prod.mk.injEq] at hf
          obtain ⟨rfl, rfl, rfl⟩ := hf
          refine ⟨_, _, ext, hvr, r2.freeze (by simp; omega) (fun id hi => ?_) hlt⟩
          rw [List.getElem?_take, if_pos hi]
      · simp only [Prod.mk.injEq] at hf
        obtain ⟨rfl, rfl, rfl⟩ := hf
        exact ⟨F2, m2, ex, hv, r2⟩
    · simp only [Prod.mk.injEq] at hf
      obtain ⟨rfl, rfl, rfl⟩ := hf
      exact ⟨F2, m2, ex, hv, r2⟩

theorem finish_quiet {h0 : Heap} {st : St} {keep : Bool} {r y : AV} {h' : Heap} {e : Eff} (hf : finish keep h0 st r = (y, h', e)) (hq : e.q = true) : h' = h0 ∧ e.ds = [] ∧ e.ls = [] := by
  unfold finish at hf
  cases keep with
  | true =>
    simp only [cond_true, Prod.mk.injEq] at hf
    obtain ⟨rfl, rfl, rfl⟩ := hf
    cases hq
  | false =>
    simp only [cond_false] at hf
    split at hf
    · split at hf
      · split at hf
        · simp only [Prod.mk.injEq] at hf
          obtain ⟨rfl, rfl, rfl⟩ := hf
          exact ⟨rfl, rfl, rfl⟩
        · simp only [Prod.mk.injEq] at hf
          obtain ⟨rfl, rfl, rfl⟩ := hf
          cases hq
      · simp only [Prod.mk.injEq] at hf
        obtain ⟨rfl, rfl, rfl⟩ := hf
        cases hq
    · simp only [Prod.mk.injEq] at hf
      obtain ⟨rfl, rfl, rfl⟩ := hf
      cases hq

theorem finish_law {h0 : Heap} {st0 st : St} {keep : Bool} {r y : AV} {h' : Heap} {e : Eff} (hs : st0.h = h0) (law : LawSt h0.length st0 st) (hf : finish keep h0 st r = (y, h', e)) : Law h0 h' e.ds e.ls := by
  have hlen : h0.length ≤ st.h.length := by rw [← hs]; exact law.len
  have whole : Law h0 st.h st.ds st.ls := by
    refine ⟨hlen, fun id hi hn => by rw [law.ds id hi (by rw [hs]; exact hi) hn, hs], fun n id r r' hn h1 h2 h3 => ?_⟩
    exact law.ls n id r r' (List.getElem?_eq_some_iff.1 h1).1 hn (by rw [hs]; exact h1) h2 h3
  unfold finish at hf
  cases keep with
  | true =>
    simp only [cond_true, Prod.mk.injEq] at hf
    obtain ⟨rfl, rfl, rfl⟩ := hf
    exact whole
  | false =>
    simp only [cond_false] at hf
    split at hf
    · rename_i hls
      rw [hls] at whole
      split at hf
      · split at hf
        · simp only [Prod.mk.injEq] at hf
          obtain ⟨rfl, rfl, rfl⟩ := hf
          exact Law.refl h0
        · simp only [Prod.mk.injEq] at hf
          obtain ⟨rfl, rfl, rfl⟩ := hf
          refine ⟨by simp; omega, fun id hi hn => ?_, fun n id r r' hn h1 h2 h3 => ?_⟩
          · rw [List.getElem?_take, if_pos hi]; exact whole.ds id hi hn
          · have hi := (List.getElem?_eq_some_iff.1 h1).1
            rw [List.getElem?_take, if_pos hi] at h2
            exact whole.ls n id r r' hn h1 h2 h3
      · simp only [Prod.mk.injEq] at hf
        obtain ⟨rfl, rfl, rfl⟩ := hf
        exact whole
    · simp only [Prod.mk.injEq] at hf
      obtain ⟨rfl, rfl, rfl⟩ := hf
      exact whole

end Go.AM
