/- How the relation between a heap and a world lives on: draws, stores, new rows, new maps. Conditions: none. -/
import Derived.Test.YtobdjegooonklaaGreatAmHeap
set_option linter.unusedVariables false
namespace Go.AM
open Go

theorem getElem?_set_row {h : Heap} {id i : Nat} {r x : Row} (hi : (h.set id r)[i]? = some x) : (i = id ∧ x = r) ∨ (i ≠ id ∧ h[i]? = some x) := by
  rw [List.getElem?_set] at hi
  by_cases e : id = i
  · subst e
    simp only [if_true] at hi
    split at hi
    · injection hi with hi
      exact .inl ⟨rfl, hi.symm⟩
    · cases hi
  · simp only [e, if_false] at hi
    exact .inr ⟨fun k => e k.symm, hi⟩

theorem getElem?_push_row {h : Heap} {i : Nat} {r x : Row} (hi : (h ++ [r])[i]? = some x) : (i = h.length ∧ x = r) ∨ (i < h.length ∧ h[i]? = some x) := by
  rcases Nat.lt_trichotomy i h.length with h1 | h1 | h1
  · rw [List.getElem?_append_left h1] at hi
    exact .inr ⟨h1, hi⟩
  · subst h1
    rw [List.getElem?_append_right (Nat.le_refl _)] at hi
    simp at hi
    exact .inl ⟨rfl, hi.symm⟩
  · rw [List.getElem?_eq_none (by simp; omega)] at hi
    cases hi

theorem lt_of_getElem? {α : Type} {l : List α} {i : Nat} {x : α} (h : l[i]? = some x) : i < l.length := by
  rcases Nat.lt_or_ge i l.length with k | k
  · exact k
  · rw [List.getElem?_eq_none k] at h; cases h

/-- Worlds with the same memory. -/
theorem Rel.of_heap {F : Fz} {m : Mp} {h : Heap} {w w' : World} (r : Rel F m h w) (e : w'.heap = w.heap) : Rel F m h w' := by
  refine ⟨fun b o hb => by rw [e]; exact r.fz b o hb, fun id k gen els ex hi => ?_, fun id es c hi => ?_, r.fresh, r.freshM, r.inj, r.injM⟩
  · obtain ⟨g, C, t, cur, x⟩ := r.row id k gen els ex hi
    exact ⟨g, C, t, cur, ⟨x.mp, x.pos, by rw [e]; exact x.heap, x.own, x.size, x.len, x.exact, x.ty, x.most, x.all, x.cells, x.gens⟩⟩
  · obtain ⟨g, ents, x⟩ := r.map id es c hi
    exact ⟨g, ents, ⟨x.mp, by rw [e]; exact x.heap, x.own, x.ents⟩⟩


/-- A block that is no row's and no map's. -/
theorem EntR.mono {F F' : Fz} {m m' : Mp} (e : Ext F m F' m') : ∀ {es : List (AV × AV × Nat)} {ents : List MapEntry}, EntR F m es ents → EntR F' m' es ents
  | [], _, h => by simpa [EntR] using h
  | (k, x, b) :: l, es, h => by
    simp only [EntR] at h ⊢
    obtain ⟨en, r, h1, h2, h3, h4, h5⟩ := h
    exact ⟨en, r, h1.mono e, h2.mono e, h3, EntR.mono e h4, h5⟩

/-- A row's cells written, its other facts kept. -/
theorem Rel.setRow {F : Fz} {m : Mp} {h : Heap} {w : World} (r : Rel F m h w) {id k gen : Nat} {els els' : List AV} {ex : Tag} {g C : Nat} {e : TypeId} {cur cur' : Array Value}
    (hi : h[id]? = some (.row k gen els ex)) (x : RowR F m w id k gen els ex g C e cur) (hs : cur'.size = cur.size) (hl : els'.length ≤ C) (hx : ex.full = true → els'.length = C)
    (ha : allK k els' = true) (hc : CL F m els' (cur'.toList.take (els'.length * k))) : Rel F m (h.set id (.row k gen els' ex)) (w.setRow g cur') := by
  have hother : ∀ b, b ≠ g → (w.setRow g cur').heap[b]? = w.heap[b]? := fun b hb => setRow_other w g b cur' hb
  refine ⟨fun b o hb => ?_, fun id1 k1 gen1 els1 ex1 h1 => ?_, fun id1 es c h1 => ?_, fun i gn hn => by simpa using r.fresh i gn hn, fun i hn => by simpa using r.freshM i hn, ?_, ?_⟩
  · rw [hother b (fun hbg => by subst hbg; rw [x.own] at hb; cases hb)]
    exact r.fz b o hb
  · rcases getElem?_set_row h1 with ⟨rfl, h2⟩ | ⟨hne, h2⟩
    · injection h2 with h2 h3 h4 h5
      subst h2; subst h3; subst h4; subst h5
      exact ⟨g, C, e, cur', ⟨x.mp, x.pos, setRow_heap w g cur cur' e (0, 0) x.heap, x.own, by rw [hs, x.size], hl, hx, x.ty, x.most, ha, hc, x.gens⟩⟩
    · obtain ⟨g1, C1, e1, cur1, y⟩ := r.row _ _ _ _ _ h2
      have hg : g1 ≠ g := fun hg => hne (by subst hg; exact r.inj id1 id _ _ _ _ _ _ _ _ _ _ _ _ _ h2 hi y.mp x.mp)
      exact ⟨g1, C1, e1, cur1, ⟨y.mp, y.pos, by rw [hother g1 hg]; exact y.heap, y.own, y.size, y.len, y.exact, y.ty, y.most, y.all, y.cells, y.gens⟩⟩
  · rcases getElem?_set_row h1 with ⟨rfl, h2⟩ | ⟨hne, h2⟩
    · cases h2
    · obtain ⟨g1, ents, y⟩ := r.map _ _ _ h2
      have hg : g1 ≠ g := fun hg => by subst hg; have := x.heap; rw [y.heap] at this; cases this
      exact ⟨g1, ents, ⟨y.mp, by rw [hother g1 hg]; exact y.heap, y.own, y.ents⟩⟩
  · intro id1 id2 k1 gen1 els1 ex1 k2 gen2 els2 ex2 gg C1 C2 r1 r2 h1 h2 h3 h4
    rcases getElem?_set_row h1 with ⟨rfl, e1⟩ | ⟨hne1, e1⟩ <;> rcases getElem?_set_row h2 with ⟨rfl, e2⟩ | ⟨hne2, e2⟩
    · rfl
    · injection e1 with a1 a2 a3 a4
      subst a1; subst a2
      exact r.inj _ _ _ _ _ _ _ _ _ _ _ _ _ _ _ hi e2 h3 h4
    · injection e2 with a1 a2 a3 a4
      subst a1; subst a2
      exact r.inj _ _ _ _ _ _ _ _ _ _ _ _ _ _ _ e1 hi h3 h4
    · exact r.inj _ _ _ _ _ _ _ _ _ _ _ _ _ _ _ e1 e2 h3 h4
  · intro id1 id2 es1 c1 es2 c2 gg h1 h2 h3 h4
    rcases getElem?_set_row h1 with ⟨rfl, e1⟩ | ⟨hne1, e1⟩
    · cases e1
    · rcases getElem?_set_row h2 with ⟨rfl, e2⟩ | ⟨hne2, e2⟩
      · cases e2
      · exact r.injM _ _ _ _ _ _ _ e1 e2 h3 h4

theorem same_setRow (w : World) (g : Nat) (cur : Array Value) : Same w (w.setRow g cur) := ⟨rfl, rfl, rfl, by simp, Nat.le_refl _⟩

def Mp.add (m : Mp) (id gen : Nat) (x : Nat × Nat × Nat) : Mp := { m with row := fun i g => if i = id ∧ g = gen then some x else m.row i g }
def Mp.addM (m : Mp) (id g : Nat) : Mp := { m with map := fun i => if i = id then some g else m.map i }

theorem Mp.add_same {m : Mp} {id gen : Nat} {x : Nat × Nat × Nat} : (m.add id gen x).row id gen = some x := by simp [Mp.add]
theorem Mp.add_other {m : Mp} {id gen i g : Nat} {x : Nat × Nat × Nat} (h : ¬(i = id ∧ g = gen)) : (m.add id gen x).row i g = m.row i g := by simp [Mp.add, h]

theorem Ext.add {F : Fz} {m : Mp} {id gen : Nat} {x : Nat × Nat × Nat} (h : m.row id gen = none) : Ext F m F (m.add id gen x) :=
  ⟨fun _ _ hb => hb, fun i g y hy => by
    by_cases e : i = id ∧ g = gen
    · obtain ⟨rfl, rfl⟩ := e; rw [h] at hy; cases hy
    · rw [Mp.add_other e]; exact hy, fun _ _ hy => hy⟩

theorem Ext.addM {F : Fz} {m : Mp} {id g : Nat} (h : m.map id = none) : Ext F m F (m.addM id g) :=
  ⟨fun _ _ hb => hb, fun _ _ _ hy => hy, fun i x hy => by
    by_cases e : i = id
    · subst e; rw [h] at hy; cases hy
    · simp [Mp.addM, e]; exact hy⟩

theorem heap_alloc_old (w : World) (o : Obj) {b : Nat} {x : Obj} (h : w.heap[b]? = some x) : (w.alloc o).heap[b]? = some x := by
  have hb : b < w.heap.size := (Array.getElem?_eq_some_iff.1 h).1
  simp only [World.alloc, Array.getElem?_push]
  rw [if_neg (by omega)]
  exact h

theorem heap_alloc_self (w : World) (o : Obj) : (w.alloc o).heap[w.heap.size]? = some o := by
  show (w.heap.push o)[w.heap.size]? = some o
  simp

theorem same_alloc (w : World) (o : Obj) : Same w (w.alloc o) := ⟨rfl, rfl, rfl, by simp, Nat.le_refl _⟩

theorem Rel.fresh_none {F : Fz} {m : Mp} {h : Heap} {w : World} (r : Rel F m h w) (gen : Nat) : m.row h.length gen = none := by
  cases e : m.row h.length gen with
  | none => rfl
  | some x => exact absurd (r.fresh _ gen (by rw [e]; simp)) (by omega)

theorem Rel.freshM_none {F : Fz} {m : Mp} {h : Heap} {w : World} (r : Rel F m h w) : m.map h.length = none := by
  cases e : m.map h.length with
  | none => rfl
  | some x => exact absurd (r.freshM _ (by rw [e]; simp)) (by omega)

/-- A block more that nothing knows of. -/
theorem Rel.alloc {F : Fz} {m : Mp} {h : Heap} {w : World} (r : Rel F m h w) (o : Obj) : Rel F m h (w.alloc o) := by
  refine ⟨fun b x hb => heap_alloc_old w o (r.fz b x hb), fun id k gen els ex hi => ?_, fun id es c hi => ?_, r.fresh, r.freshM, r.inj, r.injM⟩
  · obtain ⟨g, C, t, cur, x⟩ := r.row id k gen els ex hi
    exact ⟨g, C, t, cur, ⟨x.mp, x.pos, heap_alloc_old w o x.heap, x.own, x.size, x.len, x.exact, x.ty, x.most, x.all, x.cells, x.gens⟩⟩
  · obtain ⟨g, ents, x⟩ := r.map id es c hi
    exact ⟨g, ents, ⟨x.mp, heap_alloc_old w o x.heap, x.own, x.ents⟩⟩

/-- The relation under a wider mapping that says nothing new of what stands. -/
theorem Rel.map_add {F : Fz} {m : Mp} {h : Heap} {w : World} (r : Rel F m h w) {id gen : Nat} {x : Nat × Nat × Nat} (hn : ∀ gn, m.row id gn = none) (hid : id = h.length) (row : Row)
    (hrow : ∃ k els ex, row = .row k gen els ex ∧ ∃ g C e cur, RowR F (m.add id gen x) w id k gen els ex g C e cur) (hg : ∀ b o, F b = some o → b ≠ x.1)
    (hfree : ∀ i k gn els ex g C y, h[i]? = some (.row k gn els ex) → m.row i gn = some (g, C, y) → g ≠ x.1) :
    Rel F (m.add id gen x) (h ++ [row]) w := by
  subst hid
  have he : Ext F m F (m.add h.length gen x) := Ext.add (hn gen)
  obtain ⟨k0, els0, ex0, rfl, g0, C0, e0, cur0, x0⟩ := hrow
  have hx : x = (g0, C0, k0) := by have := x0.mp; rw [Mp.add_same] at this; injection this
  have hold : ∀ i gn y, i < h.length → (m.add h.length gen x).row i gn = y → m.row i gn = y := fun i gn y hi hy => by rw [Mp.add_other (by omega)] at hy; exact hy
  refine ⟨r.fz, fun id1 k1 gen1 els1 ex1 h1 => ?_, fun id1 es c h1 => ?_, fun i gn hne => ?_, fun i hne => ?_, ?_, ?_⟩
  · rcases getElem?_push_row h1 with ⟨rfl, h2⟩ | ⟨hlt, h2⟩
    · injection h2 with a1 a2 a3 a4
      subst a1; subst a2; subst a3; subst a4
      exact ⟨g0, C0, e0, cur0, x0⟩
    · obtain ⟨g1, C1, e1, cur1, y⟩ := r.row _ _ _ _ _ h2
      exact ⟨g1, C1, e1, cur1, ⟨he.row _ _ _ y.mp, y.pos, y.heap, y.own, y.size, y.len, y.exact, y.ty, y.most, y.all, y.cells.mono he, fun gn hgn => y.gens gn (by rw [Mp.add_other (by omega)] at hgn; exact hgn)⟩⟩
  · rcases getElem?_push_row h1 with ⟨rfl, h2⟩ | ⟨hlt, h2⟩
    · cases h2
    · obtain ⟨g1, ents, y⟩ := r.map _ _ _ h2
      exact ⟨g1, ents, ⟨he.map _ _ y.mp, y.heap, y.own, y.ents.mono he⟩⟩
  · by_cases e : i = h.length ∧ gn = gen
    · simp [e.1]
    · rw [Mp.add_other e] at hne
      have := r.fresh i gn hne
      simp; omega
  · have := r.freshM i hne
    simp; omega
  · intro id1 id2 k1 gen1 els1 ex1 k2 gen2 els2 ex2 gg C1 C2 r1 r2 h1 h2 h3 h4
    rcases getElem?_push_row h1 with ⟨rfl, e1⟩ | ⟨hl1, e1⟩ <;> rcases getElem?_push_row h2 with ⟨rfl, e2⟩ | ⟨hl2, e2⟩
    · rfl
    · injection e1 with a1 a2 a3 a4
      subst a2
      rw [Mp.add_same] at h3
      injection h3 with h3
      exact absurd (by rw [h3]) (hfree _ _ _ _ _ _ _ _ e2 (hold _ _ _ hl2 h4))
    · injection e2 with a1 a2 a3 a4
      subst a2
      rw [Mp.add_same] at h4
      injection h4 with h4
      exact absurd (by rw [h4]) (hfree _ _ _ _ _ _ _ _ e1 (hold _ _ _ hl1 h3))
    · exact r.inj _ _ _ _ _ _ _ _ _ _ _ _ _ _ _ e1 e2 (hold _ _ _ hl1 h3) (hold _ _ _ hl2 h4)
  · intro id1 id2 es1 c1 es2 c2 gg h1 h2 h3 h4
    rcases getElem?_push_row h1 with ⟨rfl, e1⟩ | ⟨hl1, e1⟩
    · cases e1
    · rcases getElem?_push_row h2 with ⟨rfl, e2⟩ | ⟨hl2, e2⟩
      · cases e2
      · exact r.injM _ _ _ _ _ _ _ e1 e2 h3 h4

/-- A NEW ROW: its block is new, its first elements are told, the rest is spare. -/
theorem Rel.newRow {F : Fz} {m : Mp} {h : Heap} {w : World} (r : Rel F m h w) {k C : Nat} {els : List AV} {ex : Tag} {cells : Array Value} (hk : 0 < k) (hs : cells.size = C * k)
    (hl : els.length ≤ C) (hx : ex.full = true → els.length = C) (hm : C ≤ maxLen) (ha : allK k els = true) (hc : CL F m els (cells.toList.take (els.length * k))) :
    Rel F (m.add h.length 0 (w.heap.size, C, k)) (h ++ [.row k 0 els ex]) (w.alloc (.cells cells ex.ty)) ∧ Ext F m F (m.add h.length 0 (w.heap.size, C, k)) := by
  have he : Ext F m F (m.add h.length 0 (w.heap.size, C, k)) := Ext.add (r.fresh_none 0)
  have hF : F w.heap.size = none := by
    cases hb : F w.heap.size with
    | none => rfl
    | some o => have := r.fz _ _ hb; simp at this
  refine ⟨(r.alloc _).map_add (fun gn => r.fresh_none gn) rfl _ ⟨k, els, ex, rfl, w.heap.size, C, ex.ty, cells, ?_⟩ (fun b o hb => ?_) (fun i k' gn els' ex' g C' y hi hy => ?_), he⟩
  · refine ⟨Mp.add_same, hk, heap_alloc_self w _, hF, hs, hl, hx, rfl, hm, ha, hc.mono he, fun gn hgn => ?_⟩
    by_cases e0 : gn = 0
    · omega
    · rw [Mp.add_other (by omega), r.fresh_none gn] at hgn
      exact absurd rfl hgn
  · have := (Array.getElem?_eq_some_iff.1 (r.fz b o hb)).1
    simp only [ne_eq]; omega
  · obtain ⟨g1, C1, e1, cur1, z⟩ := r.row _ _ _ _ _ hi
    have h1 := z.mp
    rw [hy] at h1
    injection h1 with h1
    have : g = g1 := congrArg (·.1) h1
    have := (Array.getElem?_eq_some_iff.1 z.heap).1
    simp only [ne_eq]; omega

end Go.AM
