/- Places in values; what a heap says of a world; loads, stores, new rows. Conditions: none. -/
import Derived.Test.YtobdjegooonklaaGreatAmRel
namespace Go.AM
open Go

def splice (l : List Value) (o : Nat) (z : List Value) : List Value := l.take o ++ z ++ l.drop (o + z.length)

theorem splice_length {l : List Value} {o : Nat} {z : List Value} (h : o + z.length ≤ l.length) : (splice l o z).length = l.length := by
  simp [splice]; omega

theorem splice_append_left {l r : List Value} {o : Nat} {z : List Value} (h : o + z.length ≤ l.length) : splice (l ++ r) o z = splice l o z ++ r := by
  unfold splice
  rw [List.take_append_of_le_length (by omega), List.drop_append_of_le_length (by omega)]
  simp

theorem splice_append_right {l r : List Value} {o : Nat} {z : List Value} (h : l.length ≤ o) : splice (l ++ r) o z = l ++ splice r (o - l.length) z := by
  unfold splice
  rw [List.take_append, List.drop_append, List.take_of_length_le h, List.drop_eq_nil_of_le (by omega : l.length ≤ o + z.length)]
  simp
  congr 1
  omega

theorem drop_take_append_left {l r : List Value} {o n : Nat} (h : o + n ≤ l.length) : ((l ++ r).drop o).take n = (l.drop o).take n := by
  rw [List.drop_append_of_le_length (by omega), List.take_append_of_le_length (by simp; omega)]

theorem drop_take_append_right {l r : List Value} {o n : Nat} (h : l.length ≤ o) : ((l ++ r).drop o).take n = (r.drop (o - l.length)).take n := by
  rw [List.drop_append, List.drop_eq_nil_of_le h]; simp

mutual
theorem nav_rel {F : Fz} {m : Mp} : ∀ (x : AV) (p : List Nat) (o : Nat) (y : AV), nav x p o = some y → ∀ v, VRel F m x v → isTup v = false →
    ∃ z, VRel F m y z ∧ isTup z = false ∧ z.cells.toList = (v.cells.toList.drop o).take (leafs y) ∧ o + leafs y ≤ leafs x
  | x, [], o, y, h, v, hv, ht => by
    have h' : (bif Nat.beq o 0 then some x else none) = some y := by cases x <;> simpa [nav] using h
    cases hb : Nat.beq o 0 with
    | false => simp [hb] at h'
    | true =>
      simp [hb] at h'
      have ho : o = 0 := Nat.eq_of_beq_eq_true hb
      subst ho; subst h'
      refine ⟨v, hv, ht, ?_, by omega⟩
      rw [List.drop_zero, List.take_of_length_le]
      simp [VRel.size x v hv ht]
  | .agg l, f :: p, o, y, h, v, hv, ht => by
    simp only [nav] at h
    obtain ⟨hv1, hv2⟩ := hv.ofAgg
    simp only [leafs]
    exact navL_rel l f p o y h _ hv2
  | .v _, _ :: _, _, _, h, _, _, _ => by simp [nav] at h
  | .tup _, _ :: _, _, _, h, _, _, _ => by simp [nav] at h
  | .lit .., _ :: _, _, _, h, _, _, _ => by simp [nav] at h
  | .sl .., _ :: _, _, _, h, _, _, _ => by simp [nav] at h
  | .isl .., _ :: _, _, _, h, _, _, _ => by simp [nav] at h
  | .ptr .., _ :: _, _, _, h, _, _, _ => by simp [nav] at h
  | .rop _, _ :: _, _, _, h, _, _, _ => by simp [nav] at h
  | .map _, _ :: _, _, _, h, _, _, _ => by simp [nav] at h
  | .fn .., _ :: _, _, _, h, _, _, _ => by simp [nav] at h
  | .any, _ :: _, _, _, h, _, _, _ => by simp [nav] at h
theorem navL_rel {F : Fz} {m : Mp} : ∀ (l : List AV) (f : Nat) (p : List Nat) (o : Nat) (y : AV), navL l f p o = some y → ∀ cs, CL F m l cs →
    ∃ z, VRel F m y z ∧ isTup z = false ∧ z.cells.toList = (cs.drop o).take (leafs y) ∧ o + leafs y ≤ leafsL l
  | [], _, _, _, _, h, _, _ => by simp [navL] at h
  | x :: l, 0, p, o, y, h, cs, hc => by
    simp only [navL] at h
    simp only [CL] at hc
    obtain ⟨v, ds, h1, h2, h3, rfl⟩ := hc
    obtain ⟨z, hz1, hz2, hz3, hz4⟩ := nav_rel x p o y h v h1 h2
    refine ⟨z, hz1, hz2, ?_, by simp only [leafsL]; omega⟩
    rw [drop_take_append_left (by simp [VRel.size x v h1 h2]; omega), hz3]
  | x :: l, f + 1, p, o, y, h, cs, hc => by
    simp only [navL] at h
    simp only [CL] at hc
    obtain ⟨v, ds, h1, h2, h3, rfl⟩ := hc
    cases hb : Nat.ble (leafs x) o with
    | false => simp [hb] at h
    | true =>
      simp [hb] at h
      have hle : leafs x ≤ o := Nat.le_of_ble_eq_true hb
      obtain ⟨z, hz1, hz2, hz3, hz4⟩ := navL_rel l f p _ y h ds h3
      refine ⟨z, hz1, hz2, ?_, by simp only [leafsL]; omega⟩
      have hs : v.cells.toList.length = leafs x := by simp [VRel.size x v h1 h2]
      rw [drop_take_append_right (by omega), hz3, hs]
end

mutual
theorem put_rel {F : Fz} {m : Mp} {y : AV} {z : Value} (hz : VRel F m y z) (hzt : isTup z = false) : ∀ (x : AV) (p : List Nat) (o : Nat) (x' : AV), put x p o y = some x' →
    ∀ v, VRel F m x v → isTup v = false →
    ∃ v', VRel F m x' v' ∧ isTup v' = false ∧ v'.cells.toList = splice v.cells.toList o z.cells.toList ∧ leafs x' = leafs x ∧ o + leafs y ≤ leafs x
  | x, [], o, x', h, v, hv, ht => by
    have h' : (bif Nat.beq o 0 && Nat.beq (leafs x) (leafs y) then some y else none) = some x' := by cases x <;> simpa [put] using h
    cases hb : (Nat.beq o 0 && Nat.beq (leafs x) (leafs y)) with
    | false => simp [hb] at h'
    | true =>
      simp [hb] at h'
      have hb' := hb
      rw [Bool.and_eq_true] at hb'
      have ho : o = 0 := Nat.eq_of_beq_eq_true hb'.1
      have hl : leafs x = leafs y := Nat.eq_of_beq_eq_true hb'.2
      subst ho; subst h'
      refine ⟨z, hz, hzt, ?_, hl.symm, by omega⟩
      have h1 : v.cells.toList.length = leafs x := by simp [VRel.size x v hv ht]
      have h2 : z.cells.toList.length = leafs y := by simp [VRel.size y z hz hzt]
      simp only [splice, List.take_zero, List.nil_append, Nat.zero_add]
      rw [List.drop_eq_nil_of_le (by omega), List.append_nil]
  | .agg l, f :: p, o, x', h, v, hv, ht => by
    simp only [put] at h
    obtain ⟨hv1, hv2⟩ := hv.ofAgg
    cases hp : putL l f p o y with
    | none => rw [hp] at h; cases h
    | some l' =>
      rw [hp] at h
      injection h with h
      subst h
      obtain ⟨cs', h1, h2, h3, h4⟩ := putL_rel hz hzt l f p o l' hp _ hv2
      exact ⟨.agg cs'.toArray, by simp only [VRel]; exact ⟨cs', h1, rfl⟩, rfl, by simpa [Value.cells] using h2, by simpa [leafs] using h3, by simpa [leafs] using h4⟩
  | .v _, _ :: _, _, _, h, _, _, _ => by simp [put] at h
  | .tup _, _ :: _, _, _, h, _, _, _ => by simp [put] at h
  | .lit .., _ :: _, _, _, h, _, _, _ => by simp [put] at h
  | .sl .., _ :: _, _, _, h, _, _, _ => by simp [put] at h
  | .isl .., _ :: _, _, _, h, _, _, _ => by simp [put] at h
  | .ptr .., _ :: _, _, _, h, _, _, _ => by simp [put] at h
  | .rop _, _ :: _, _, _, h, _, _, _ => by simp [put] at h
  | .map _, _ :: _, _, _, h, _, _, _ => by simp [put] at h
  | .fn .., _ :: _, _, _, h, _, _, _ => by simp [put] at h
  | .any, _ :: _, _, _, h, _, _, _ => by simp [put] at h
theorem putL_rel {F : Fz} {m : Mp} {y : AV} {z : Value} (hz : VRel F m y z) (hzt : isTup z = false) : ∀ (l : List AV) (f : Nat) (p : List Nat) (o : Nat) (l' : List AV), putL l f p o y = some l' →
    ∀ cs, CL F m l cs → ∃ cs', CL F m l' cs' ∧ cs' = splice cs o z.cells.toList ∧ leafsL l' = leafsL l ∧ o + leafs y ≤ leafsL l
  | [], _, _, _, _, h, _, _ => by simp [putL] at h
  | x :: l, 0, p, o, l', h, cs, hc => by
    simp only [putL] at h
    simp only [CL] at hc
    obtain ⟨v, ds, h1, h2, h3, rfl⟩ := hc
    cases hp : put x p o y with
    | none => rw [hp] at h; cases h
    | some x' =>
      rw [hp] at h
      injection h with h
      subst h
      obtain ⟨v', g1, g2, g3, g4, g5⟩ := put_rel hz hzt x p o x' hp v h1 h2
      refine ⟨_, ?_, rfl, by simp only [leafsL]; omega, by simp only [leafsL]; omega⟩
      simp only [CL]
      refine ⟨v', ds, g1, g2, h3, ?_⟩
      rw [g3, splice_append_left]
      simp [VRel.size y z hz hzt, VRel.size x v h1 h2]
      omega
  | x :: l, f + 1, p, o, l', h, cs, hc => by
    simp only [putL] at h
    simp only [CL] at hc
    obtain ⟨v, ds, h1, h2, h3, rfl⟩ := hc
    cases hb : Nat.ble (leafs x) o with
    | false => simp [hb] at h
    | true =>
      simp only [hb, cond_true] at h
      have hle : leafs x ≤ o := Nat.le_of_ble_eq_true hb
      cases hp : putL l f p (o - leafs x) y with
      | none => rw [hp] at h; cases h
      | some l1 =>
        rw [hp] at h
        injection h with h
        subst h
        obtain ⟨ds', g1, g2, g3, g4⟩ := putL_rel hz hzt l f p _ l1 hp ds h3
        have hs : v.cells.toList.length = leafs x := by simp [VRel.size x v h1 h2]
        refine ⟨_, ?_, rfl, by simp only [leafsL]; omega, by simp only [leafsL]; omega⟩
        simp only [CL]
        refine ⟨v, ds', h1, h2, g1, ?_⟩
        rw [splice_append_right (by omega), g2, hs]
end

/-! ### Rows of alike elements -/
theorem allK_get {k : Nat} : ∀ {l : List AV} {i : Nat} {x : AV}, allK k l = true → l[i]? = some x → leafs x = k
  | [], i, x, _, h => by simp at h
  | y :: l, 0, x, h, hi => by
    simp [allK] at h
    simp at hi
    subst hi
    exact h.1
  | y :: l, i + 1, x, h, hi => by
    simp [allK] at h
    simp at hi
    exact allK_get h.2 hi

theorem allK_leafs {k : Nat} : ∀ {l : List AV}, allK k l = true → leafsL l = l.length * k
  | [], _ => by simp [leafsL]
  | x :: l, h => by
    simp [allK] at h
    simp only [leafsL, List.length_cons, allK_leafs h.2, h.1, Nat.add_mul]
    omega

theorem allK_set {k : Nat} : ∀ {l : List AV} {i : Nat} {x : AV}, allK k l = true → leafs x = k → allK k (l.set i x) = true
  | [], i, x, _, _ => by simp [allK]
  | y :: l, 0, x, h, hx => by
    simp [allK] at h ⊢
    exact ⟨hx, h.2⟩
  | y :: l, i + 1, x, h, hx => by
    simp [allK] at h ⊢
    exact ⟨h.1, allK_set h.2 hx⟩

theorem allK_append {k : Nat} : ∀ {l r : List AV}, allK k (l ++ r) = (allK k l && allK k r)
  | [], r => by simp [allK]
  | x :: l, r => by simp [allK, allK_append, Bool.and_assoc]

theorem allK_take {k : Nat} : ∀ {l : List AV} (n : Nat), allK k l = true → allK k (l.take n) = true
  | [], n, _ => by simp [allK]
  | x :: l, 0, _ => by simp [allK]
  | x :: l, n + 1, h => by
    simp [allK] at h ⊢
    exact ⟨h.1, allK_take n h.2⟩

theorem allK_drop {k : Nat} : ∀ {l : List AV} (n : Nat), allK k l = true → allK k (l.drop n) = true
  | [], n, _ => by simp [allK]
  | x :: l, 0, h => by simpa using h
  | x :: l, n + 1, h => by
    simp [allK] at h
    simpa using allK_drop n h.2

theorem allK_replicate {k n : Nat} {x : AV} (h : leafs x = k) : allK k (List.replicate n x) = true := by
  induction n with
  | zero => simp [allK]
  | succ n ih => simp [List.replicate_succ, allK, ih, h]

theorem CL_append {F : Fz} {m : Mp} : ∀ {l r : List AV} {cs ds : List Value}, CL F m l cs → CL F m r ds → CL F m (l ++ r) (cs ++ ds)
  | [], r, cs, ds, h, k => by
    simp only [CL] at h
    subst h
    simpa using k
  | x :: l, r, cs, ds, h, k => by
    simp only [CL] at h
    obtain ⟨y, es, h1, h2, h3, rfl⟩ := h
    simp only [List.cons_append, CL]
    exact ⟨y, es ++ ds, h1, h2, CL_append h3 k, by simp⟩

theorem CL_split {F : Fz} {m : Mp} : ∀ {l r : List AV} {cs : List Value}, CL F m (l ++ r) cs → ∃ a b, CL F m l a ∧ CL F m r b ∧ cs = a ++ b
  | [], r, cs, h => ⟨[], cs, by simp [CL], by simpa using h, rfl⟩
  | x :: l, r, cs, h => by
    simp only [List.cons_append, CL] at h
    obtain ⟨y, es, h1, h2, h3, rfl⟩ := h
    obtain ⟨a, b, g1, g2, rfl⟩ := CL_split h3
    exact ⟨y.cells.toList ++ a, b, by simp only [CL]; exact ⟨y, a, h1, h2, g1, rfl⟩, g2, by simp⟩

theorem CL_take {F : Fz} {m : Mp} {l : List AV} {cs : List Value} {k : Nat} (h : CL F m l cs) (hk : allK k l = true) (n : Nat) : CL F m (l.take n) (cs.take (n * k)) := by
  have hl : l = l.take n ++ l.drop n := (List.take_append_drop n l).symm
  rw [hl] at h
  obtain ⟨a, b, g1, g2, rfl⟩ := CL_split h
  have ha : a.length = (l.take n).length * k := by rw [CL.size _ _ g1, allK_leafs (allK_take n hk)]
  by_cases hn : n ≤ l.length
  · rw [List.length_take, Nat.min_eq_left hn] at ha
    have e1 : (a ++ b).take (n * k) = a := by rw [List.take_append_of_le_length (by omega), List.take_of_length_le (by omega)]
    rw [e1]
    exact g1
  · have hd : l.drop n = [] := List.drop_eq_nil_of_le (by omega)
    rw [hd] at g2
    simp only [CL] at g2
    subst g2
    rw [List.length_take, Nat.min_eq_right (by omega)] at ha
    have : l.length * k ≤ n * k := Nat.mul_le_mul_right _ (by omega)
    have e1 : (a ++ []).take (n * k) = a := by rw [List.append_nil, List.take_of_length_le (by omega)]
    rw [e1]
    exact g1

theorem CL_drop {F : Fz} {m : Mp} {l : List AV} {cs : List Value} {k : Nat} (h : CL F m l cs) (hk : allK k l = true) (n : Nat) : CL F m (l.drop n) (cs.drop (n * k)) := by
  have hl : l = l.take n ++ l.drop n := (List.take_append_drop n l).symm
  rw [hl] at h
  obtain ⟨a, b, g1, g2, rfl⟩ := CL_split h
  have ha : a.length = (l.take n).length * k := by rw [CL.size _ _ g1, allK_leafs (allK_take n hk)]
  by_cases hn : n ≤ l.length
  · rw [List.length_take, Nat.min_eq_left hn] at ha
    rw [← ha, List.drop_left]
    exact g2
  · have hd : l.drop n = [] := List.drop_eq_nil_of_le (by omega)
    rw [hd] at g2 ⊢
    simp only [CL] at g2
    subst g2
    rw [List.length_take, Nat.min_eq_right (by omega)] at ha
    have : l.length * k ≤ n * k := Nat.mul_le_mul_right _ (by omega)
    simp only [CL, List.append_nil]
    exact List.drop_eq_nil_of_le (by omega)

theorem CL_get {F : Fz} {m : Mp} {l : List AV} {cs : List Value} {k i : Nat} {x : AV} (h : CL F m l cs) (hk : allK k l = true) (hi : l[i]? = some x) :
    ∃ v, VRel F m x v ∧ isTup v = false ∧ v.cells.toList = (cs.drop (i * k)).take k := by
  have hd := CL_drop h hk i
  have hi' : i < l.length := by
    rcases Nat.lt_or_ge i l.length with h | h
    · exact h
    · simp [List.getElem?_eq_none h] at hi
  have hx : l.drop i = x :: l.drop (i + 1) := by
    rw [List.drop_eq_getElem_cons hi']
    congr 1
    simpa [List.getElem?_eq_getElem hi'] using hi
  rw [hx] at hd
  simp only [CL] at hd
  obtain ⟨v, ds, h1, h2, _, h4⟩ := hd
  refine ⟨v, h1, h2, ?_⟩
  have hs : v.cells.toList.length = k := by rw [← allK_get hk hi]; simp [VRel.size x v h1 h2]
  rw [h4, List.take_append_of_le_length (by omega), List.take_of_length_le (by omega)]

theorem CL_set {F : Fz} {m : Mp} : ∀ {l : List AV} {cs : List Value} {k i : Nat} {x : AV} {v : Value}, CL F m l cs → allK k l = true → i < l.length → VRel F m x v → isTup v = false → leafs x = k →
    CL F m (l.set i x) (splice cs (i * k) v.cells.toList)
  | [], _, _, _, _, _, _, _, hi, _, _, _ => by simp at hi
  | y :: l, cs, k, 0, x, v, h, hk, _, hv, ht, hx => by
    simp only [CL] at h
    obtain ⟨u, ds, h1, h2, h3, rfl⟩ := h
    simp [allK] at hk
    have hu : u.cells.toList.length = k := by rw [← hk.1]; simp [VRel.size y u h1 h2]
    have hvl : v.cells.toList.length = k := by rw [← hx]; simp [VRel.size x v hv ht]
    simp only [List.set_cons_zero, CL]
    refine ⟨v, ds, hv, ht, h3, ?_⟩
    simp only [splice, Nat.zero_mul, List.take_zero, List.nil_append, Nat.zero_add]
    rw [List.drop_append_of_le_length (by omega), List.drop_eq_nil_of_le (by omega), List.nil_append]
  | y :: l, cs, k, i + 1, x, v, h, hk, hi, hv, ht, hx => by
    simp only [CL] at h
    obtain ⟨u, ds, h1, h2, h3, rfl⟩ := h
    simp [allK] at hk
    have hu : u.cells.toList.length = k := by rw [← hk.1]; simp [VRel.size y u h1 h2]
    simp only [List.set_cons_succ, CL]
    refine ⟨u, _, h1, h2, CL_set h3 hk.2 (by simpa using hi) hv ht hx, ?_⟩
    rw [splice_append_right (by rw [hu, Nat.add_mul]; omega), hu]
    congr 2
    rw [Nat.add_mul]; omega

/-! ### The heap -/
structure RowR (F : Fz) (m : Mp) (w : World) (id k gen : Nat) (els : List AV) (ex : Tag) (g C : Nat) (e : TypeId) (cur : Array Value) : Prop where
  mp : m.row id gen = some (g, C, k)
  pos : 0 < k
  heap : w.heap[g]? = some (.cells cur e (0, 0))
  own : F g = none
  size : cur.size = C * k
  len : els.length ≤ C
  exact : ex.full = true → els.length = C
  ty : e = ex.ty
  most : C ≤ maxLen
  all : allK k els = true
  cells : CL F m els (cur.toList.take (els.length * k))
  gens : ∀ gen', m.row id gen' ≠ none → gen' ≤ gen

def EntR (F : Fz) (m : Mp) : List (AV × AV × Nat) → List MapEntry → Prop
  | [], es => es = []
  | (k, x, b) :: l, es => ∃ e r, VRel F m k e.key ∧ VRel F m x e.val ∧ e.born = b ∧ EntR F m l r ∧ es = e :: r

structure MapR (F : Fz) (m : Mp) (w : World) (id : Nat) (es : List (AV × AV × Nat)) (c g : Nat) (ents : Array MapEntry) : Prop where
  mp : m.map id = some g
  heap : w.heap[g]? = some (.map ents c)
  own : F g = none
  ents : EntR F m es ents.toList

structure Rel (F : Fz) (m : Mp) (h : Heap) (w : World) : Prop where
  fz : ∀ b o, F b = some o → w.heap[b]? = some o
  row : ∀ id k gen els ex, h[id]? = some (.row k gen els ex) → ∃ g C e cur, RowR F m w id k gen els ex g C e cur
  map : ∀ id es c, h[id]? = some (.map es c) → ∃ g ents, MapR F m w id es c g ents
  fresh : ∀ id gen, m.row id gen ≠ none → id < h.length
  freshM : ∀ id, m.map id ≠ none → id < h.length
  inj : ∀ id id' k gen els ex k' gen' els' ex' g C C' r r', h[id]? = some (.row k gen els ex) → h[id']? = some (.row k' gen' els' ex') →
    m.row id gen = some (g, C, r) → m.row id' gen' = some (g, C', r') → id = id'
  injM : ∀ id id' es c es' c' g, h[id]? = some (.map es c) → h[id']? = some (.map es' c') → m.map id = some g → m.map id' = some g → id = id'

structure Same (w w' : World) : Prop where
  os : w'.os = w.os
  tape : w'.tape = w.tape
  output : w'.output = w.output
  size : w.heap.size ≤ w'.heap.size
  drawn : w.drawn ≤ w'.drawn

theorem Same.refl (w : World) : Same w w := ⟨rfl, rfl, rfl, Nat.le_refl _, Nat.le_refl _⟩
theorem Same.trans {w w' w'' : World} (h : Same w w') (k : Same w' w'') : Same w w'' :=
  ⟨k.os.trans h.os, k.tape.trans h.tape, k.output.trans h.output, Nat.le_trans h.size k.size, Nat.le_trans h.drawn k.drawn⟩

end Go.AM
