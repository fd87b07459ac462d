/- What an abstract value and an abstract heap say of a world. Conditions: none. -/
import Derived.Test.YtobdjegooonklaaGreatAmCore
import Derived.WalkKit
namespace Go.AM
open Go

/-- What is never written again, and stands so. -/
abbrev Fz := Nat → Option Obj

structure Mp where
  row : Nat → Nat → Option (Nat × Nat × Nat)
  map : Nat → Option Nat

def isTup : Value → Bool
  | .tuple _ => true
  | _ => false

def FC (F : Fz) (a : Addr) (cs : List Value) : Prop :=
  ∀ j v, cs[j]? = some v → ∃ c e fr, F a.block = some (.cells c e fr) ∧ c[a.off + j]? = some v

mutual
def VRel (F : Fz) (m : Mp) : AV → Value → Prop
  | .v x, y => free x = true ∧ y = x
  | .agg l, y => ∃ cs, CL F m l cs ∧ y = .agg cs.toArray
  | .tup l, y => ∃ ys, VL F m l ys ∧ y = .tuple ys.toArray
  | .lit k full l, y => ∃ a cap cs, CL F m l cs ∧ allK k l = true ∧ FC F a cs ∧ a.spot = none ∧ l.length ≤ cap ∧ (full = true → cap = l.length) ∧
      y = .slice (some a) l.length cap
  | .sl id gen off len, y => ∃ g C k a, m.row id gen = some (g, C, k) ∧ off + len ≤ C ∧ a.block = g ∧ a.spot = none ∧ (off < C → a.off = off * k) ∧
      y = .slice (some a) len (C - off)
  | .isl id gen i _ o k off len n, y => ∃ g C K a, m.row id gen = some (g, C, K) ∧ off + len ≤ n ∧ a.block = g ∧ a.spot = none ∧
      (off < n → a.off = i * K + o + off * k) ∧ y = .slice (some a) len (n - off)
  | .ptr id gen i _ o, y => ∃ g C k, m.row id gen = some (g, C, k) ∧ y = .pointer (some ⟨g, i * k + o, none⟩)
  | .rop x, y => ∃ a z, VRel F m x z ∧ isTup z = false ∧ FC F a z.cells.toList ∧ a.spot = none ∧ y = .pointer (some a)
  | .map id, y => ∃ g, m.map id = some g ∧ y = .map (some g)
  | .fn f p q, y => ∃ xs ys, VL F m p xs ∧ VL F m q ys ∧ y = .func f xs.toArray ys.toArray
  | .any, y => y.oneCell' = true
def CL (F : Fz) (m : Mp) : List AV → List Value → Prop
  | [], cs => cs = []
  | x :: l, cs => ∃ y ds, VRel F m x y ∧ isTup y = false ∧ CL F m l ds ∧ cs = y.cells.toList ++ ds
def VL (F : Fz) (m : Mp) : List AV → List Value → Prop
  | [], ys => ys = []
  | x :: l, ys => ∃ y ds, VRel F m x y ∧ VL F m l ds ∧ ys = y :: ds
end

structure Ext (F : Fz) (m : Mp) (F' : Fz) (m' : Mp) : Prop where
  fz : ∀ b o, F b = some o → F' b = some o
  row : ∀ id gen x, m.row id gen = some x → m'.row id gen = some x
  map : ∀ id x, m.map id = some x → m'.map id = some x

theorem Ext.refl (F : Fz) (m : Mp) : Ext F m F m := ⟨fun _ _ h => h, fun _ _ _ h => h, fun _ _ h => h⟩
theorem Ext.trans {F F' F'' : Fz} {m m' m'' : Mp} (h : Ext F m F' m') (k : Ext F' m' F'' m'') : Ext F m F'' m'' :=
  ⟨fun b o x => k.fz b o (h.fz b o x), fun i g x y => k.row i g x (h.row i g x y), fun i x y => k.map i x (h.map i x y)⟩

theorem FC.mono {F F' : Fz} {m m' : Mp} (e : Ext F m F' m') {a : Addr} {cs : List Value} (h : FC F a cs) : FC F' a cs := fun j v hj => by
  obtain ⟨c, t, fr, h1, h2⟩ := h j v hj
  exact ⟨c, t, fr, e.fz _ _ h1, h2⟩

mutual
theorem VRel.mono {F F' : Fz} {m m' : Mp} (e : Ext F m F' m') : ∀ (x : AV) (y : Value), VRel F m x y → VRel F' m' x y
  | .v _, _, h => by simpa [VRel] using h
  | .agg l, y, h => by
    simp only [VRel] at h ⊢
    obtain ⟨cs, h1, h2⟩ := h
    exact ⟨cs, CL.mono e l cs h1, h2⟩
  | .tup l, y, h => by
    simp only [VRel] at h ⊢
    obtain ⟨ys, h1, h2⟩ := h
    exact ⟨ys, VL.mono e l ys h1, h2⟩
  | .lit k full l, y, h => by
    simp only [VRel] at h ⊢
    obtain ⟨a, cap, cs, h1, h2, h3, h4⟩ := h
    exact ⟨a, cap, cs, CL.mono e l cs h1, h2, h3.mono e, h4⟩
  | .sl id gen off len, y, h => by
    simp only [VRel] at h ⊢
    obtain ⟨g, C, k, a, h1, h2⟩ := h
    exact ⟨g, C, k, a, e.row _ _ _ h1, h2⟩
  | .isl id gen i p o k off len n, y, h => by
    simp only [VRel] at h ⊢
    obtain ⟨g, C, K, a, h1, h2⟩ := h
    exact ⟨g, C, K, a, e.row _ _ _ h1, h2⟩
  | .ptr id gen i p o, y, h => by
    simp only [VRel] at h ⊢
    obtain ⟨g, C, k, h1, h2⟩ := h
    exact ⟨g, C, k, e.row _ _ _ h1, h2⟩
  | .rop x, y, h => by
    simp only [VRel] at h ⊢
    obtain ⟨a, z, h1, h2, h3, h4⟩ := h
    exact ⟨a, z, VRel.mono e x z h1, h2, h3.mono e, h4⟩
  | .map id, y, h => by
    simp only [VRel] at h ⊢
    obtain ⟨g, h1, h2⟩ := h
    exact ⟨g, e.map _ _ h1, h2⟩
  | .fn f p q, y, h => by
    simp only [VRel] at h ⊢
    obtain ⟨xs, ys, h1, h2, h3⟩ := h
    exact ⟨xs, ys, VL.mono e p xs h1, VL.mono e q ys h2, h3⟩
  | .any, y, h => by simpa [VRel] using h
theorem CL.mono {F F' : Fz} {m m' : Mp} (e : Ext F m F' m') : ∀ (l : List AV) (cs : List Value), CL F m l cs → CL F' m' l cs
  | [], _, h => by simpa [CL] using h
  | x :: l, cs, h => by
    simp only [CL] at h ⊢
    obtain ⟨y, ds, h1, h2, h3, h4⟩ := h
    exact ⟨y, ds, VRel.mono e x y h1, h2, CL.mono e l ds h3, h4⟩
theorem VL.mono {F F' : Fz} {m m' : Mp} (e : Ext F m F' m') : ∀ (l : List AV) (ys : List Value), VL F m l ys → VL F' m' l ys
  | [], _, h => by simpa [VL] using h
  | x :: l, cs, h => by
    simp only [VL] at h ⊢
    obtain ⟨y, ds, h1, h2, h3⟩ := h
    exact ⟨y, ds, VRel.mono e x y h1, VL.mono e l ds h2, h3⟩
end

/-! ### Cells -/
theorem free_cells {x : Value} (h : free x = true) : x.cells = #[x] ∧ x.oneCell' = true ∧ isTup x = false := by
  cases x <;> simp_all [free, Value.cells, Value.oneCell', isTup]

mutual
theorem VRel.size {F : Fz} {m : Mp} : ∀ (x : AV) (y : Value), VRel F m x y → isTup y = false → y.cells.size = leafs x
  | .v x, y, h, _ => by
    simp only [VRel] at h
    obtain ⟨h, rfl⟩ := h
    simp [(free_cells h).1, leafs]
  | .agg l, y, h, _ => by
    simp only [VRel] at h
    obtain ⟨cs, h1, rfl⟩ := h
    simp [Value.cells, leafs, CL.size l cs h1]
  | .tup l, y, h, ht => by
    simp only [VRel] at h
    obtain ⟨cs, h1, rfl⟩ := h
    simp [isTup] at ht
  | .lit .., y, h, _ => by
    simp only [VRel] at h
    obtain ⟨a, cap, cs, _, _, _, _, _, _, rfl⟩ := h
    simp [Value.cells, leafs]
  | .sl .., y, h, _ => by
    simp only [VRel] at h
    obtain ⟨g, C, k, a, _, _, _, _, _, rfl⟩ := h
    simp [Value.cells, leafs]
  | .isl .., y, h, _ => by
    simp only [VRel] at h
    obtain ⟨g, C, k, a, _, _, _, _, _, rfl⟩ := h
    simp [Value.cells, leafs]
  | .ptr .., y, h, _ => by
    simp only [VRel] at h
    obtain ⟨g, C, k, _, rfl⟩ := h
    simp [Value.cells, leafs]
  | .rop x, y, h, _ => by
    simp only [VRel] at h
    obtain ⟨a, z, _, _, _, _, rfl⟩ := h
    simp [Value.cells, leafs]
  | .map id, y, h, _ => by
    simp only [VRel] at h
    obtain ⟨g, _, rfl⟩ := h
    simp [Value.cells, leafs]
  | .fn f p q, y, h, _ => by
    simp only [VRel] at h
    obtain ⟨xs, ys, _, _, rfl⟩ := h
    simp [Value.cells, leafs]
  | .any, y, h, _ => by
    simp only [VRel] at h
    cases y <;> simp_all [Value.oneCell', Value.cells, leafs]
theorem CL.size {F : Fz} {m : Mp} : ∀ (l : List AV) (cs : List Value), CL F m l cs → cs.length = leafsL l
  | [], _, h => by
    simp only [CL] at h
    simp [h, leafsL]
  | x :: l, cs, h => by
    simp only [CL] at h
    obtain ⟨y, ds, h1, h2, h3, rfl⟩ := h
    simp [leafsL, CL.size l ds h3, ← VRel.size x y h1 h2]
end

mutual
theorem VRel.one {F : Fz} {m : Mp} : ∀ (x : AV) (y : Value), VRel F m x y → isTup y = false → ∀ c ∈ y.cells.toList, c.oneCell' = true
  | .v x, y, h, _ => by
    simp only [VRel] at h
    obtain ⟨h, rfl⟩ := h
    simp [(free_cells h).1, (free_cells h).2.1]
  | .agg l, y, h, _ => by
    simp only [VRel] at h
    obtain ⟨cs, h1, rfl⟩ := h
    simpa [Value.cells] using CL.one l cs h1
  | .tup l, y, h, ht => by
    simp only [VRel] at h
    obtain ⟨cs, h1, rfl⟩ := h
    simp [isTup] at ht
  | .lit .., y, h, _ => by
    simp only [VRel] at h
    obtain ⟨a, cap, cs, _, _, _, _, _, _, rfl⟩ := h
    simp [Value.cells, Value.oneCell']
  | .sl .., y, h, _ => by
    simp only [VRel] at h
    obtain ⟨g, C, k, a, _, _, _, _, _, rfl⟩ := h
    simp [Value.cells, Value.oneCell']
  | .isl .., y, h, _ => by
    simp only [VRel] at h
    obtain ⟨g, C, k, a, _, _, _, _, _, rfl⟩ := h
    simp [Value.cells, Value.oneCell']
  | .ptr .., y, h, _ => by
    simp only [VRel] at h
    obtain ⟨g, C, k, _, rfl⟩ := h
    simp [Value.cells, Value.oneCell']
  | .rop x, y, h, _ => by
    simp only [VRel] at h
    obtain ⟨a, z, _, _, _, _, rfl⟩ := h
    simp [Value.cells, Value.oneCell']
  | .map id, y, h, _ => by
    simp only [VRel] at h
    obtain ⟨g, _, rfl⟩ := h
    simp [Value.cells, Value.oneCell']
  | .fn f p q, y, h, _ => by
    simp only [VRel] at h
    obtain ⟨xs, ys, _, _, rfl⟩ := h
    simp [Value.cells, Value.oneCell']
  | .any, y, h, _ => by
    simp only [VRel] at h
    cases y <;> simp_all [Value.oneCell', Value.cells]
theorem CL.one {F : Fz} {m : Mp} : ∀ (l : List AV) (cs : List Value), CL F m l cs → ∀ c ∈ cs, c.oneCell' = true
  | [], _, h => by
    simp only [CL] at h
    simp [h]
  | x :: l, cs, h => by
    simp only [CL] at h
    obtain ⟨y, ds, h1, h2, h3, rfl⟩ := h
    intro c hc
    rcases List.mem_append.1 hc with hc | hc
    · exact VRel.one x y h1 h2 c hc
    · exact CL.one l ds h3 c hc
end

/-- A value that is no struct is one cell. -/
theorem VRel.scalar {F : Fz} {m : Mp} {x : AV} {y : Value} (h : VRel F m x y) (ht : isTup y = false) (ha : isAggA x = false) : y.cells = #[y] := by
  cases x with
  | agg l => simp [isAggA] at ha
  | v x => simp only [VRel] at h; obtain ⟨h, rfl⟩ := h; exact (free_cells h).1
  | tup l => simp only [VRel] at h; obtain ⟨cs, h1, rfl⟩ := h; simp [isTup] at ht
  | any => simp only [VRel] at h; cases y <;> simp_all [Value.oneCell', Value.cells]
  | lit k full l => simp only [VRel] at h; obtain ⟨a, cap, cs, _, _, _, _, _, _, rfl⟩ := h; rfl
  | sl => simp only [VRel] at h; obtain ⟨g, C, k, a, _, _, _, _, _, rfl⟩ := h; rfl
  | isl => simp only [VRel] at h; obtain ⟨g, C, k, a, _, _, _, _, _, rfl⟩ := h; rfl
  | ptr => simp only [VRel] at h; obtain ⟨g, C, k, _, rfl⟩ := h; rfl
  | rop x => simp only [VRel] at h; obtain ⟨a, z, _, _, _, _, rfl⟩ := h; rfl
  | map id => simp only [VRel] at h; obtain ⟨g, _, rfl⟩ := h; rfl
  | fn f p q => simp only [VRel] at h; obtain ⟨xs, ys, _, _, rfl⟩ := h; rfl

/-- A struct's value is its cells. -/
theorem VRel.ofAgg {F : Fz} {m : Mp} {l : List AV} {y : Value} (h : VRel F m (.agg l) y) : y = .agg y.cells ∧ CL F m l y.cells.toList := by
  simp only [VRel] at h
  obtain ⟨cs, h1, rfl⟩ := h
  exact ⟨rfl, by simpa [Value.cells] using h1⟩

/-! ### Values without addresses -/
mutual
theorem toV_rel {F : Fz} {m : Mp} : ∀ (x : AV) (v : Value), toV x = some v → ∀ y, VRel F m x y → y = v
  | .v x, v, h, y, hy => by
    simp only [VRel] at hy
    obtain ⟨hf, rfl⟩ := hy
    simp [toV, hf] at h
    exact h
  | .agg l, v, h, y, hy => by
    simp only [VRel] at hy
    obtain ⟨cs, h1, rfl⟩ := hy
    simp only [toV] at h
    cases hs : toVs l with
    | none => rw [hs] at h; cases h
    | some ds =>
      rw [hs] at h
      injection h with h
      rw [toVs_rel l ds hs cs h1, h]
  | .tup _, v, h, _, _ => by simp [toV] at h
  | .lit .., v, h, _, _ => by simp [toV] at h
  | .sl .., v, h, _, _ => by simp [toV] at h
  | .isl .., v, h, _, _ => by simp [toV] at h
  | .ptr .., v, h, _, _ => by simp [toV] at h
  | .rop _, v, h, _, _ => by simp [toV] at h
  | .map _, v, h, _, _ => by simp [toV] at h
  | .fn .., v, h, _, _ => by simp [toV] at h
  | .any, v, h, _, _ => by simp [toV] at h
theorem toVs_rel {F : Fz} {m : Mp} : ∀ (l : List AV) (ds : List Value), toVs l = some ds → ∀ cs, CL F m l cs → cs = ds
  | [], ds, h, cs, hc => by
    simp only [CL] at hc
    simp [toVs] at h
    rw [hc, h]
  | x :: l, ds, h, cs, hc => by
    simp only [CL] at hc
    obtain ⟨y, es, h1, h2, h3, rfl⟩ := hc
    simp only [toVs] at h
    cases hx : toV x with
    | none => rw [hx] at h; cases h
    | some v =>
      cases hl : toVs l with
      | none => rw [hx, hl] at h; cases h
      | some fs =>
        rw [hx, hl] at h
        injection h with h
        rw [toV_rel x v hx y h1, toVs_rel l fs hl es h3, h]
end

mutual
theorem toV_self {F : Fz} {m : Mp} : ∀ (x : AV) (v : Value), toV x = some v → VRel F m x v ∧ isTup v = false
  | .v x, v, h => by
    simp only [toV] at h
    cases hf : free x with
    | false => simp [hf] at h
    | true =>
      simp [hf] at h
      subst h
      exact ⟨by simp [VRel, hf], (free_cells hf).2.2⟩
  | .agg l, v, h => by
    simp only [toV] at h
    cases hs : toVs l with
    | none => rw [hs] at h; cases h
    | some ds =>
      rw [hs] at h
      injection h with h
      subst h
      exact ⟨by simp only [VRel]; exact ⟨ds, toVs_self l ds hs, rfl⟩, rfl⟩
  | .tup _, v, h => by simp [toV] at h
  | .lit .., v, h => by simp [toV] at h
  | .sl .., v, h => by simp [toV] at h
  | .isl .., v, h => by simp [toV] at h
  | .ptr .., v, h => by simp [toV] at h
  | .rop _, v, h => by simp [toV] at h
  | .map _, v, h => by simp [toV] at h
  | .fn .., v, h => by simp [toV] at h
  | .any, v, h => by simp [toV] at h
theorem toVs_self {F : Fz} {m : Mp} : ∀ (l : List AV) (ds : List Value), toVs l = some ds → CL F m l ds
  | [], ds, h => by simp [toVs] at h; simp [CL, h]
  | x :: l, ds, h => by
    simp only [toVs] at h
    cases hx : toV x with
    | none => rw [hx] at h; cases h
    | some v =>
      cases hl : toVs l with
      | none => rw [hx, hl] at h; cases h
      | some fs =>
        rw [hx, hl] at h
        injection h with h
        subst h
        simp only [CL]
        exact ⟨v, fs, (toV_self x v hx).1, (toV_self (F := F) (m := m) x v hx).2, toVs_self l fs hl, rfl⟩
end

theorem prun_run {α : Type} {P : Program} (e : Sem α) : ∀ (a : α), prun P e = some a → ∀ w, e.run P w = .ok a w := by
  induction e with
  | pure a => intro b h w; simp [prun] at h; simp [Sem.run, h]
  | program k ih => intro b h w; simp only [prun] at h; simpa [Sem.run] using ih _ b h w
  | mark mk k ih => intro b h w; simp only [prun] at h; simpa [Sem.run] using ih b h w
  | choose q k ih =>
    intro b h w
    simp only [prun] at h
    cases hq : q.forced with
    | false => simp [hq] at h
    | true => simp [hq] at h; simpa [Sem.run, hq] using ih 0 b h w
  | _ => intro b h w; simp [prun] at h

theorem pure1_rel {F : Fz} {m : Mp} {o : Option Value} {x : AV} (h : pure1 o = some x) : ∃ v, o = some v ∧ x = .v v ∧ VRel F m x v ∧ isTup v = false := by
  cases o with
  | none => simp [pure1] at h
  | some v =>
    simp only [pure1] at h
    cases hf : free v with
    | false => simp [hf] at h
    | true =>
      simp [hf] at h
      subst h
      exact ⟨v, rfl, rfl, by simp [VRel, hf], (free_cells hf).2.2⟩

end Go.AM

namespace Go.AM
open Go

def splice (l : List Value) (o : Nat) (z : List Value) : List Value := l.take o ++ z ++ l.drop (o + z.length)

theorem splice_length {l : List Value} {o : Nat} {z : List Value} (h : o + z.length ≤ l.length) : (splice l o z).length = l.length := by
  simp [splice]; omega

theorem splice_append_left {l r : List Value} {o : Nat} {z : List Value} (h : o + z.length ≤ l.length) : splice (l ++ r) o z = splice l o z ++ r := by
  unfold splice
  rw [List.take_append_of_le_length (by omega), List.drop_append_of_le_length (by omega)]
  simp

theorem splice_append_right {l r : List Value} {o : Nat} {z : List Value} (h : l.length ≤ o) : splice (l ++ r) o z = l ++ splice r (o - l.length) z := by
  unfold splice
  rw [List.take_append, List.drop_append, List.take_of_length_le h, List.drop_eq_nil_of_le (by omega : l.length ≤ o + z.length)]
  simp
  congr 1
  omega

theorem drop_take_append_left {l r : List Value} {o n : Nat} (h : o + n ≤ l.length) : ((l ++ r).drop o).take n = (l.drop o).take n := by
  rw [List.drop_append_of_le_length (by omega), List.take_append_of_le_length (by simp; omega)]

theorem drop_take_append_right {l r : List Value} {o n : Nat} (h : l.length ≤ o) : ((l ++ r).drop o).take n = (r.drop (o - l.length)).take n := by
  rw [List.drop_append, List.drop_eq_nil_of_le h]; simp

mutual
theorem nav_rel {F : Fz} {m : Mp} : ∀ (x : AV) (p : List Nat) (o : Nat) (y : AV), nav x p o = some y → ∀ v, VRel F m x v → isTup v = false →
    ∃ z, VRel F m y z ∧ isTup z = false ∧ z.cells.toList = (v.cells.toList.drop o).take (leafs y) ∧ o + leafs y ≤ leafs x
  | x, [], o, y, h, v, hv, ht => by
    have h' : (bif Nat.beq o 0 then some x else none) = some y := by cases x <;> simpa [nav] using h
    cases hb : Nat.beq o 0 with
    | false => simp [hb] at h'
    | true =>
      simp [hb] at h'
      have ho : o = 0 := Nat.eq_of_beq_eq_true hb
      subst ho; subst h'
      refine ⟨v, hv, ht, ?_, by omega⟩
      rw [List.drop_zero, List.take_of_length_le]
      simp [VRel.size x v hv ht]
  | .agg l, f :: p, o, y, h, v, hv, ht => by
    simp only [nav] at h
    obtain ⟨hv1, hv2⟩ := hv.ofAgg
    simp only [leafs]
    exact navL_rel l f p o y h _ hv2
  | .v _, _ :: _, _, _, h, _, _, _ => by simp [nav] at h
  | .tup _, _ :: _, _, _, h, _, _, _ => by simp [nav] at h
  | .lit .., _ :: _, _, _, h, _, _, _ => by simp [nav] at h
  | .sl .., _ :: _, _, _, h, _, _, _ => by simp [nav] at h
  | .isl .., _ :: _, _, _, h, _, _, _ => by simp [nav] at h
  | .ptr .., _ :: _, _, _, h, _, _, _ => by simp [nav] at h
  | .rop _, _ :: _, _, _, h, _, _, _ => by simp [nav] at h
  | .map _, _ :: _, _, _, h, _, _, _ => by simp [nav] at h
  | .fn .., _ :: _, _, _, h, _, _, _ => by simp [nav] at h
  | .any, _ :: _, _, _, h, _, _, _ => by simp [nav] at h
theorem navL_rel {F : Fz} {m : Mp} : ∀ (l : List AV) (f : Nat) (p : List Nat) (o : Nat) (y : AV), navL l f p o = some y → ∀ cs, CL F m l cs →
    ∃ z, VRel F m y z ∧ isTup z = false ∧ z.cells.toList = (cs.drop o).take (leafs y) ∧ o + leafs y ≤ leafsL l
  | [], _, _, _, _, h, _, _ => by simp [navL] at h
  | x :: l, 0, p, o, y, h, cs, hc => by
    simp only [navL] at h
    simp only [CL] at hc
    obtain ⟨v, ds, h1, h2, h3, rfl⟩ := hc
    obtain ⟨z, hz1, hz2, hz3, hz4⟩ := nav_rel x p o y h v h1 h2
    refine ⟨z, hz1, hz2, ?_, by simp only [leafsL]; omega⟩
    rw [drop_take_append_left (by simp [VRel.size x v h1 h2]; omega), hz3]
  | x :: l, f + 1, p, o, y, h, cs, hc => by
    simp only [navL] at h
    simp only [CL] at hc
    obtain ⟨v, ds, h1, h2, h3, rfl⟩ := hc
    cases hb : Nat.ble (leafs x) o with
    | false => simp [hb] at h
    | true =>
      simp [hb] at h
      have hle : leafs x ≤ o := Nat.le_of_ble_eq_true hb
      obtain ⟨z, hz1, hz2, hz3, hz4⟩ := navL_rel l f p _ y h ds h3
      refine ⟨z, hz1, hz2, ?_, by simp only [leafsL]; omega⟩
      have hs : v.cells.toList.length = leafs x := by simp [VRel.size x v h1 h2]
      rw [drop_take_append_right (by omega), hz3, hs]
end

mutual
theorem put_rel {F : Fz} {m : Mp} {y : AV} {z : Value} (hz : VRel F m y z) (hzt : isTup z = false) : ∀ (x : AV) (p : List Nat) (o : Nat) (x' : AV), put x p o y = some x' →
    ∀ v, VRel F m x v → isTup v = false →
    ∃ v', VRel F m x' v' ∧ isTup v' = false ∧ v'.cells.toList = splice v.cells.toList o z.cells.toList ∧ leafs x' = leafs x ∧ o + leafs y ≤ leafs x
  | x, [], o, x', h, v, hv, ht => by
    have h' : (bif Nat.beq o 0 && Nat.beq (leafs x) (leafs y) then some y else none) = some x' := by cases x <;> simpa [put] using h
    cases hb : (Nat.beq o 0 && Nat.beq (leafs x) (leafs y)) with
    | false => simp [hb] at h'
    | true =>
      simp [hb] at h'
      have hb' := hb
      rw [Bool.and_eq_true] at hb'
      have ho : o = 0 := Nat.eq_of_beq_eq_true hb'.1
      have hl : leafs x = leafs y := Nat.eq_of_beq_eq_true hb'.2
      subst ho; subst h'
      refine ⟨z, hz, hzt, ?_, hl.symm, by omega⟩
      have h1 : v.cells.toList.length = leafs x := by simp [VRel.size x v hv ht]
      have h2 : z.cells.toList.length = leafs y := by simp [VRel.size y z hz hzt]
      simp only [splice, List.take_zero, List.nil_append, Nat.zero_add]
      rw [List.drop_eq_nil_of_le (by omega), List.append_nil]
  | .agg l, f :: p, o, x', h, v, hv, ht => by
    simp only [put] at h
    obtain ⟨hv1, hv2⟩ := hv.ofAgg
    cases hp : putL l f p o y with
    | none => rw [hp] at h; cases h
    | some l' =>
      rw [hp] at h
      injection h with h
      subst h
      obtain ⟨cs', h1, h2, h3, h4⟩ := putL_rel hz hzt l f p o l' hp _ hv2
      exact ⟨.agg cs'.toArray, by simp only [VRel]; exact ⟨cs', h1, rfl⟩, rfl, by simpa [Value.cells] using h2, by simpa [leafs] using h3, by simpa [leafs] using h4⟩
  | .v _, _ :: _, _, _, h, _, _, _ => by simp [put] at h
  | .tup _, _ :: _, _, _, h, _, _, _ => by simp [put] at h
  | .lit .., _ :: _, _, _, h, _, _, _ => by simp [put] at h
  | .sl .., _ :: _, _, _, h, _, _, _ => by simp [put] at h
  | .isl .., _ :: _, _, _, h, _, _, _ => by simp [put] at h
  | .ptr .., _ :: _, _, _, h, _, _, _ => by simp [put] at h
  | .rop _, _ :: _, _, _, h, _, _, _ => by simp [put] at h
  | .map _, _ :: _, _, _, h, _, _, _ => by simp [put] at h
  | .fn .., _ :: _, _, _, h, _, _, _ => by simp [put] at h
  | .any, _ :: _, _, _, h, _, _, _ => by simp [put] at h
theorem putL_rel {F : Fz} {m : Mp} {y : AV} {z : Value} (hz : VRel F m y z) (hzt : isTup z = false) : ∀ (l : List AV) (f : Nat) (p : List Nat) (o : Nat) (l' : List AV), putL l f p o y = some l' →
    ∀ cs, CL F m l cs → ∃ cs', CL F m l' cs' ∧ cs' = splice cs o z.cells.toList ∧ leafsL l' = leafsL l ∧ o + leafs y ≤ leafsL l
  | [], _, _, _, _, h, _, _ => by simp [putL] at h
  | x :: l, 0, p, o, l', h, cs, hc => by
    simp only [putL] at h
    simp only [CL] at hc
    obtain ⟨v, ds, h1, h2, h3, rfl⟩ := hc
    cases hp : put x p o y with
    | none => rw [hp] at h; cases h
    | some x' =>
      rw [hp] at h
      injection h with h
      subst h
      obtain ⟨v', g1, g2, g3, g4, g5⟩ := put_rel hz hzt x p o x' hp v h1 h2
      refine ⟨_, ?_, rfl, by simp only [leafsL]; omega, by simp only [leafsL]; omega⟩
      simp only [CL]
      refine ⟨v', ds, g1, g2, h3, ?_⟩
      rw [g3, splice_append_left]
      simp [VRel.size y z hz hzt, VRel.size x v h1 h2]
      omega
  | x :: l, f + 1, p, o, l', h, cs, hc => by
    simp only [putL] at h
    simp only [CL] at hc
    obtain ⟨v, ds, h1, h2, h3, rfl⟩ := hc
    cases hb : Nat.ble (leafs x) o with
    | false => simp [hb] at h
    | true =>
      simp only [hb, cond_true] at h
      have hle : leafs x ≤ o := Nat.le_of_ble_eq_true hb
      cases hp : putL l f p (o - leafs x) y with
      | none => rw [hp] at h; cases h
      | some l1 =>
        rw [hp] at h
        injection h with h
        subst h
        obtain ⟨ds', g1, g2, g3, g4⟩ := putL_rel hz hzt l f p _ l1 hp ds h3
        have hs : v.cells.toList.length = leafs x := by simp [VRel.size x v h1 h2]
        refine ⟨_, ?_, rfl, by simp only [leafsL]; omega, by simp only [leafsL]; omega⟩
        simp only [CL]
        refine ⟨v, ds', h1, h2, g1, ?_⟩
        rw [splice_append_right (by omega), g2, hs]
end

/-! ### Rows of alike elements -/
theorem allK_get {k : Nat} : ∀ {l : List AV} {i : Nat} {x : AV}, allK k l = true → l[i]? = some x → leafs x = k
  | [], i, x, _, h => by simp at h
  | y :: l, 0, x, h, hi => by
    simp [allK] at h
    simp at hi
    subst hi
    exact h.1
  | y :: l, i + 1, x, h, hi => by
    simp [allK] at h
    simp at hi
    exact allK_get h.2 hi

theorem allK_leafs {k : Nat} : ∀ {l : List AV}, allK k l = true → leafsL l = l.length * k
  | [], _ => by simp [leafsL]
  | x :: l, h => by
    simp [allK] at h
    simp only [leafsL, List.length_cons, allK_leafs h.2, h.1, Nat.add_mul]
    omega

theorem allK_set {k : Nat} : ∀ {l : List AV} {i : Nat} {x : AV}, allK k l = true → leafs x = k → allK k (l.set i x) = true
  | [], i, x, _, _ => by simp [allK]
  | y :: l, 0, x, h, hx => by
    simp [allK] at h ⊢
    exact ⟨hx, h.2⟩
  | y :: l, i + 1, x, h, hx => by
    simp [allK] at h ⊢
    exact ⟨h.1, allK_set h.2 hx⟩

theorem allK_append {k : Nat} : ∀ {l r : List AV}, allK k (l ++ r) = (allK k l && allK k r)
  | [], r => by simp [allK]
  | x :: l, r => by simp [allK, allK_append, Bool.and_assoc]

theorem allK_take {k : Nat} : ∀ {l : List AV} (n : Nat), allK k l = true → allK k (l.take n) = true
  | [], n, _ => by simp [allK]
  | x :: l, 0, _ => by simp [allK]
  | x :: l, n + 1, h => by
    simp [allK] at h ⊢
    exact ⟨h.1, allK_take n h.2⟩

theorem allK_drop {k : Nat} : ∀ {l : List AV} (n : Nat), allK k l = true → allK k (l.drop n) = true
  | [], n, _ => by simp [allK]
  | x :: l, 0, h => by simpa using h
  | x :: l, n + 1, h => by
    simp [allK] at h
    simpa using allK_drop n h.2

theorem allK_replicate {k n : Nat} {x : AV} (h : leafs x = k) : allK k (List.replicate n x) = true := by
  induction n with
  | zero => simp [allK]
  | succ n ih => simp [List.replicate_succ, allK, ih, h]

theorem CL_append {F : Fz} {m : Mp} : ∀ {l r : List AV} {cs ds : List Value}, CL F m l cs → CL F m r ds → CL F m (l ++ r) (cs ++ ds)
  | [], r, cs, ds, h, k => by
    simp only [CL] at h
    subst h
    simpa using k
  | x :: l, r, cs, ds, h, k => by
    simp only [CL] at h
    obtain ⟨y, es, h1, h2, h3, rfl⟩ := h
    simp only [List.cons_append, CL]
    exact ⟨y, es ++ ds, h1, h2, CL_append h3 k, by simp⟩

theorem CL_split {F : Fz} {m : Mp} : ∀ {l r : List AV} {cs : List Value}, CL F m (l ++ r) cs → ∃ a b, CL F m l a ∧ CL F m r b ∧ cs = a ++ b
  | [], r, cs, h => ⟨[], cs, by simp [CL], by simpa using h, rfl⟩
  | x :: l, r, cs, h => by
    simp only [List.cons_append, CL] at h
    obtain ⟨y, es, h1, h2, h3, rfl⟩ := h
    obtain ⟨a, b, g1, g2, rfl⟩ := CL_split h3
    exact ⟨y.cells.toList ++ a, b, by simp only [CL]; exact ⟨y, a, h1, h2, g1, rfl⟩, g2, by simp⟩

theorem CL_take {F : Fz} {m : Mp} {l : List AV} {cs : List Value} {k : Nat} (h : CL F m l cs) (hk : allK k l = true) (n : Nat) : CL F m (l.take n) (cs.take (n * k)) := by
  have hl : l = l.take n ++ l.drop n := (List.take_append_drop n l).symm
  rw [hl] at h
  obtain ⟨a, b, g1, g2, rfl⟩ := CL_split h
  have ha : a.length = (l.take n).length * k := by rw [CL.size _ _ g1, allK_leafs (allK_take n hk)]
  by_cases hn : n ≤ l.length
  · rw [List.length_take, Nat.min_eq_left hn] at ha
    have e1 : (a ++ b).take (n * k) = a := by rw [List.take_append_of_le_length (by omega), List.take_of_length_le (by omega)]
    rw [e1]
    exact g1
  · have hd : l.drop n = [] := List.drop_eq_nil_of_le (by omega)
    rw [hd] at g2
    simp only [CL] at g2
    subst g2
    rw [List.length_take, Nat.min_eq_right (by omega)] at ha
    have : l.length * k ≤ n * k := Nat.mul_le_mul_right _ (by omega)
    have e1 : (a ++ []).take (n * k) = a := by rw [List.append_nil, List.take_of_length_le (by omega)]
    rw [e1]
    exact g1

theorem CL_drop {F : Fz} {m : Mp} {l : List AV} {cs : List Value} {k : Nat} (h : CL F m l cs) (hk : allK k l = true) (n : Nat) : CL F m (l.drop n) (cs.drop (n * k)) := by
  have hl : l = l.take n ++ l.drop n := (List.take_append_drop n l).symm
  rw [hl] at h
  obtain ⟨a, b, g1, g2, rfl⟩ := CL_split h
  have ha : a.length = (l.take n).length * k := by rw [CL.size _ _ g1, allK_leafs (allK_take n hk)]
  by_cases hn : n ≤ l.length
  · rw [List.length_take, Nat.min_eq_left hn] at ha
    rw [← ha, List.drop_left]
    exact g2
  · have hd : l.drop n = [] := List.drop_eq_nil_of_le (by omega)
    rw [hd] at g2 ⊢
    simp only [CL] at g2
    subst g2
    rw [List.length_take, Nat.min_eq_right (by omega)] at ha
    have : l.length * k ≤ n * k := Nat.mul_le_mul_right _ (by omega)
    simp only [CL, List.append_nil]
    exact List.drop_eq_nil_of_le (by omega)

theorem CL_get {F : Fz} {m : Mp} {l : List AV} {cs : List Value} {k i : Nat} {x : AV} (h : CL F m l cs) (hk : allK k l = true) (hi : l[i]? = some x) :
    ∃ v, VRel F m x v ∧ isTup v = false ∧ v.cells.toList = (cs.drop (i * k)).take k := by
  have hd := CL_drop h hk i
  have hi' : i < l.length := by
    rcases Nat.lt_or_ge i l.length with h | h
    · exact h
    · simp [List.getElem?_eq_none h] at hi
  have hx : l.drop i = x :: l.drop (i + 1) := by
    rw [List.drop_eq_getElem_cons hi']
    congr 1
    simpa [List.getElem?_eq_getElem hi'] using hi
  rw [hx] at hd
  simp only [CL] at hd
  obtain ⟨v, ds, h1, h2, _, h4⟩ := hd
  refine ⟨v, h1, h2, ?_⟩
  have hs : v.cells.toList.length = k := by rw [← allK_get hk hi]; simp [VRel.size x v h1 h2]
  rw [h4, List.take_append_of_le_length (by omega), List.take_of_length_le (by omega)]

theorem CL_set {F : Fz} {m : Mp} : ∀ {l : List AV} {cs : List Value} {k i : Nat} {x : AV} {v : Value}, CL F m l cs → allK k l = true → i < l.length → VRel F m x v → isTup v = false → leafs x = k →
    CL F m (l.set i x) (splice cs (i * k) v.cells.toList)
  | [], _, _, _, _, _, _, _, hi, _, _, _ => by simp at hi
  | y :: l, cs, k, 0, x, v, h, hk, _, hv, ht, hx => by
    simp only [CL] at h
    obtain ⟨u, ds, h1, h2, h3, rfl⟩ := h
    simp [allK] at hk
    have hu : u.cells.toList.length = k := by rw [← hk.1]; simp [VRel.size y u h1 h2]
    have hvl : v.cells.toList.length = k := by rw [← hx]; simp [VRel.size x v hv ht]
    simp only [List.set_cons_zero, CL]
    refine ⟨v, ds, hv, ht, h3, ?_⟩
    simp only [splice, Nat.zero_mul, List.take_zero, List.nil_append, Nat.zero_add]
    rw [List.drop_append_of_le_length (by omega), List.drop_eq_nil_of_le (by omega), List.nil_append]
  | y :: l, cs, k, i + 1, x, v, h, hk, hi, hv, ht, hx => by
    simp only [CL] at h
    obtain ⟨u, ds, h1, h2, h3, rfl⟩ := h
    simp [allK] at hk
    have hu : u.cells.toList.length = k := by rw [← hk.1]; simp [VRel.size y u h1 h2]
    simp only [List.set_cons_succ, CL]
    refine ⟨u, _, h1, h2, CL_set h3 hk.2 (by simpa using hi) hv ht hx, ?_⟩
    rw [splice_append_right (by rw [hu, Nat.add_mul]; omega), hu]
    congr 2
    rw [Nat.add_mul]; omega

/-! ### The heap -/
structure RowR (F : Fz) (m : Mp) (w : World) (id k gen : Nat) (els : List AV) (ex : Tag) (g C : Nat) (e : TypeId) (cur : Array Value) : Prop where
  mp : m.row id gen = some (g, C, k)
  pos : 0 < k
  heap : w.heap[g]? = some (.cells cur e (0, 0))
  own : F g = none
  size : cur.size = C * k
  len : els.length ≤ C
  exact : ex.full = true → els.length = C
  ty : e = ex.ty
  most : C ≤ maxLen
  all : allK k els = true
  cells : CL F m els (cur.toList.take (els.length * k))
  gens : ∀ gen', m.row id gen' ≠ none → gen' ≤ gen

def EntR (F : Fz) (m : Mp) : List (AV × AV × Nat) → List MapEntry → Prop
  | [], es => es = []
  | (k, x, b) :: l, es => ∃ e r, VRel F m k e.key ∧ VRel F m x e.val ∧ e.born = b ∧ EntR F m l r ∧ es = e :: r

structure MapR (F : Fz) (m : Mp) (w : World) (id : Nat) (es : List (AV × AV × Nat)) (c g : Nat) (ents : Array MapEntry) : Prop where
  mp : m.map id = some g
  heap : w.heap[g]? = some (.map ents c)
  own : F g = none
  ents : EntR F m es ents.toList

structure Rel (F : Fz) (m : Mp) (h : Heap) (w : World) : Prop where
  fz : ∀ b o, F b = some o → w.heap[b]? = some o
  row : ∀ id k gen els ex, h[id]? = some (.row k gen els ex) → ∃ g C e cur, RowR F m w id k gen els ex g C e cur
  map : ∀ id es c, h[id]? = some (.map es c) → ∃ g ents, MapR F m w id es c g ents
  fresh : ∀ id gen, m.row id gen ≠ none → id < h.length
  freshM : ∀ id, m.map id ≠ none → id < h.length
  inj : ∀ id id' k gen els ex k' gen' els' ex' g C C' r r', h[id]? = some (.row k gen els ex) → h[id']? = some (.row k' gen' els' ex') →
    m.row id gen = some (g, C, r) → m.row id' gen' = some (g, C', r') → id = id'
  injM : ∀ id id' es c es' c' g, h[id]? = some (.map es c) → h[id']? = some (.map es' c') → m.map id = some g → m.map id' = some g → id = id'

structure Same (w w' : World) : Prop where
  os : w'.os = w.os
  tape : w'.tape = w.tape
  output : w'.output = w.output
  size : w.heap.size ≤ w'.heap.size
  drawn : w.drawn ≤ w'.drawn

theorem Same.refl (w : World) : Same w w := ⟨rfl, rfl, rfl, Nat.le_refl _, Nat.le_refl _⟩
theorem Same.trans {w w' w'' : World} (h : Same w w') (k : Same w' w'') : Same w w'' :=
  ⟨k.os.trans h.os, k.tape.trans h.tape, k.output.trans h.output, Nat.le_trans h.size k.size, Nat.le_trans h.drawn k.drawn⟩

end Go.AM

set_option linter.unusedVariables false
namespace Go.AM
open Go

theorem getElem?_set_row {h : Heap} {id i : Nat} {r x : Row} (hi : (h.set id r)[i]? = some x) : (i = id ∧ x = r) ∨ (i ≠ id ∧ h[i]? = some x) := by
  rw [List.getElem?_set] at hi
  by_cases e : id = i
  · subst e
    simp only [if_true] at hi
    split at hi
    · injection hi with hi
      exact .inl ⟨rfl, hi.symm⟩
    · cases hi
  · simp only [e, if_false] at hi
    exact .inr ⟨fun k => e k.symm, hi⟩

theorem getElem?_push_row {h : Heap} {i : Nat} {r x : Row} (hi : (h ++ [r])[i]? = some x) : (i = h.length ∧ x = r) ∨ (i < h.length ∧ h[i]? = some x) := by
  rcases Nat.lt_trichotomy i h.length with h1 | h1 | h1
  · rw [List.getElem?_append_left h1] at hi
    exact .inr ⟨h1, hi⟩
  · subst h1
    rw [List.getElem?_append_right (Nat.le_refl _)] at hi
    simp at hi
    exact .inl ⟨rfl, hi.symm⟩
  · rw [List.getElem?_eq_none (by simp; omega)] at hi
    cases hi

theorem lt_of_getElem? {α : Type} {l : List α} {i : Nat} {x : α} (h : l[i]? = some x) : i < l.length := by
  rcases Nat.lt_or_ge i l.length with k | k
  · exact k
  · rw [List.getElem?_eq_none k] at h; cases h

/-- Worlds with the same memory. -/
theorem Rel.of_heap {F : Fz} {m : Mp} {h : Heap} {w w' : World} (r : Rel F m h w) (e : w'.heap = w.heap) : Rel F m h w' := by
  refine ⟨fun b o hb => by rw [e]; exact r.fz b o hb, fun id k gen els ex hi => ?_, fun id es c hi => ?_, r.fresh, r.freshM, r.inj, r.injM⟩
  · obtain ⟨g, C, t, cur, x⟩ := r.row id k gen els ex hi
    exact ⟨g, C, t, cur, ⟨x.mp, x.pos, by rw [e]; exact x.heap, x.own, x.size, x.len, x.exact, x.ty, x.most, x.all, x.cells, x.gens⟩⟩
  · obtain ⟨g, ents, x⟩ := r.map id es c hi
    exact ⟨g, ents, ⟨x.mp, by rw [e]; exact x.heap, x.own, x.ents⟩⟩


/-- A block that is no row's and no map's. -/
theorem EntR.mono {F F' : Fz} {m m' : Mp} (e : Ext F m F' m') : ∀ {es : List (AV × AV × Nat)} {ents : List MapEntry}, EntR F m es ents → EntR F' m' es ents
  | [], _, h => by simpa [EntR] using h
  | (k, x, b) :: l, es, h => by
    simp only [EntR] at h ⊢
    obtain ⟨en, r, h1, h2, h3, h4, h5⟩ := h
    exact ⟨en, r, h1.mono e, h2.mono e, h3, EntR.mono e h4, h5⟩

/-- A row's cells written, its other facts kept. -/
theorem Rel.setRow {F : Fz} {m : Mp} {h : Heap} {w : World} (r : Rel F m h w) {id k gen : Nat} {els els' : List AV} {ex : Tag} {g C : Nat} {e : TypeId} {cur cur' : Array Value}
    (hi : h[id]? = some (.row k gen els ex)) (x : RowR F m w id k gen els ex g C e cur) (hs : cur'.size = cur.size) (hl : els'.length ≤ C) (hx : ex.full = true → els'.length = C)
    (ha : allK k els' = true) (hc : CL F m els' (cur'.toList.take (els'.length * k))) : Rel F m (h.set id (.row k gen els' ex)) (w.setRow g cur') := by
  have hother : ∀ b, b ≠ g → (w.setRow g cur').heap[b]? = w.heap[b]? := fun b hb => setRow_other w g b cur' hb
  refine ⟨fun b o hb => ?_, fun id1 k1 gen1 els1 ex1 h1 => ?_, fun id1 es c h1 => ?_, fun i gn hn => by simpa using r.fresh i gn hn, fun i hn => by simpa using r.freshM i hn, ?_, ?_⟩
  · rw [hother b (fun hbg => by subst hbg; rw [x.own] at hb; cases hb)]
    exact r.fz b o hb
  · rcases getElem?_set_row h1 with ⟨rfl, h2⟩ | ⟨hne, h2⟩
    · injection h2 with h2 h3 h4 h5
      subst h2; subst h3; subst h4; subst h5
      exact ⟨g, C, e, cur', ⟨x.mp, x.pos, setRow_heap w g cur cur' e (0, 0) x.heap, x.own, by rw [hs, x.size], hl, hx, x.ty, x.most, ha, hc, x.gens⟩⟩
    · obtain ⟨g1, C1, e1, cur1, y⟩ := r.row _ _ _ _ _ h2
      have hg : g1 ≠ g := fun hg => hne (by subst hg; exact r.inj id1 id _ _ _ _ _ _ _ _ _ _ _ _ _ h2 hi y.mp x.mp)
      exact ⟨g1, C1, e1, cur1, ⟨y.mp, y.pos, by rw [hother g1 hg]; exact y.heap, y.own, y.size, y.len, y.exact, y.ty, y.most, y.all, y.cells, y.gens⟩⟩
  · rcases getElem?_set_row h1 with ⟨rfl, h2⟩ | ⟨hne, h2⟩
    · cases h2
    · obtain ⟨g1, ents, y⟩ := r.map _ _ _ h2
      have hg : g1 ≠ g := fun hg => by subst hg; have := x.heap; rw [y.heap] at this; cases this
      exact ⟨g1, ents, ⟨y.mp, by rw [hother g1 hg]; exact y.heap, y.own, y.ents⟩⟩
  · intro id1 id2 k1 gen1 els1 ex1 k2 gen2 els2 ex2 gg C1 C2 r1 r2 h1 h2 h3 h4
    rcases getElem?_set_row h1 with ⟨rfl, e1⟩ | ⟨hne1, e1⟩ <;> rcases getElem?_set_row h2 with ⟨rfl, e2⟩ | ⟨hne2, e2⟩
    · rfl
    · injection e1 with a1 a2 a3 a4
      subst a1; subst a2
      exact r.inj _ _ _ _ _ _ _ _ _ _ _ _ _ _ _ hi e2 h3 h4
    · injection e2 with a1 a2 a3 a4
      subst a1; subst a2
      exact r.inj _ _ _ _ _ _ _ _ _ _ _ _ _ _ _ e1 hi h3 h4
    · exact r.inj _ _ _ _ _ _ _ _ _ _ _ _ _ _ _ e1 e2 h3 h4
  · intro id1 id2 es1 c1 es2 c2 gg h1 h2 h3 h4
    rcases getElem?_set_row h1 with ⟨rfl, e1⟩ | ⟨hne1, e1⟩
    · cases e1
    · rcases getElem?_set_row h2 with ⟨rfl, e2⟩ | ⟨hne2, e2⟩
      · cases e2
      · exact r.injM _ _ _ _ _ _ _ e1 e2 h3 h4

theorem same_setRow (w : World) (g : Nat) (cur : Array Value) : Same w (w.setRow g cur) := ⟨rfl, rfl, rfl, by simp, Nat.le_refl _⟩

def Mp.add (m : Mp) (id gen : Nat) (x : Nat × Nat × Nat) : Mp := { m with row := fun i g => if i = id ∧ g = gen then some x else m.row i g }
def Mp.addM (m : Mp) (id g : Nat) : Mp := { m with map := fun i => if i = id then some g else m.map i }

theorem Mp.add_same {m : Mp} {id gen : Nat} {x : Nat × Nat × Nat} : (m.add id gen x).row id gen = some x := by simp [Mp.add]
theorem Mp.add_other {m : Mp} {id gen i g : Nat} {x : Nat × Nat × Nat} (h : ¬(i = id ∧ g = gen)) : (m.add id gen x).row i g = m.row i g := by simp [Mp.add, h]

theorem Ext.add {F : Fz} {m : Mp} {id gen : Nat} {x : Nat × Nat × Nat} (h : m.row id gen = none) : Ext F m F (m.add id gen x) :=
  ⟨fun _ _ hb => hb, fun i g y hy => by
    by_cases e : i = id ∧ g = gen
    · obtain ⟨rfl, rfl⟩ := e; rw [h] at hy; cases hy
    · rw [Mp.add_other e]; exact hy, fun _ _ hy => hy⟩

theorem Ext.addM {F : Fz} {m : Mp} {id g : Nat} (h : m.map id = none) : Ext F m F (m.addM id g) :=
  ⟨fun _ _ hb => hb, fun _ _ _ hy => hy, fun i x hy => by
    by_cases e : i = id
    · subst e; rw [h] at hy; cases hy
    · simp [Mp.addM, e]; exact hy⟩

theorem heap_alloc_old (w : World) (o : Obj) {b : Nat} {x : Obj} (h : w.heap[b]? = some x) : (w.alloc o).heap[b]? = some x := by
  have hb : b < w.heap.size := (Array.getElem?_eq_some_iff.1 h).1
  simp only [World.alloc, Array.getElem?_push]
  rw [if_neg (by omega)]
  exact h

theorem heap_alloc_self (w : World) (o : Obj) : (w.alloc o).heap[w.heap.size]? = some o := by
  show (w.heap.push o)[w.heap.size]? = some o
  simp

theorem same_alloc (w : World) (o : Obj) : Same w (w.alloc o) := ⟨rfl, rfl, rfl, by simp, Nat.le_refl _⟩

theorem Rel.fresh_none {F : Fz} {m : Mp} {h : Heap} {w : World} (r : Rel F m h w) (gen : Nat) : m.row h.length gen = none := by
  cases e : m.row h.length gen with
  | none => rfl
  | some x => exact absurd (r.fresh _ gen (by rw [e]; simp)) (by omega)

theorem Rel.freshM_none {F : Fz} {m : Mp} {h : Heap} {w : World} (r : Rel F m h w) : m.map h.length = none := by
  cases e : m.map h.length with
  | none => rfl
  | some x => exact absurd (r.freshM _ (by rw [e]; simp)) (by omega)

/-- A block more that nothing knows of. -/
theorem Rel.alloc {F : Fz} {m : Mp} {h : Heap} {w : World} (r : Rel F m h w) (o : Obj) : Rel F m h (w.alloc o) := by
  refine ⟨fun b x hb => heap_alloc_old w o (r.fz b x hb), fun id k gen els ex hi => ?_, fun id es c hi => ?_, r.fresh, r.freshM, r.inj, r.injM⟩
  · obtain ⟨g, C, t, cur, x⟩ := r.row id k gen els ex hi
    exact ⟨g, C, t, cur, ⟨x.mp, x.pos, heap_alloc_old w o x.heap, x.own, x.size, x.len, x.exact, x.ty, x.most, x.all, x.cells, x.gens⟩⟩
  · obtain ⟨g, ents, x⟩ := r.map id es c hi
    exact ⟨g, ents, ⟨x.mp, heap_alloc_old w o x.heap, x.own, x.ents⟩⟩

/-- The relation under a wider mapping that says nothing new of what stands. -/
theorem Rel.map_add {F : Fz} {m : Mp} {h : Heap} {w : World} (r : Rel F m h w) {id gen : Nat} {x : Nat × Nat × Nat} (hn : ∀ gn, m.row id gn = none) (hid : id = h.length) (row : Row)
    (hrow : ∃ k els ex, row = .row k gen els ex ∧ ∃ g C e cur, RowR F (m.add id gen x) w id k gen els ex g C e cur) (hg : ∀ b o, F b = some o → b ≠ x.1)
    (hfree : ∀ i k gn els ex g C y, h[i]? = some (.row k gn els ex) → m.row i gn = some (g, C, y) → g ≠ x.1) :
    Rel F (m.add id gen x) (h ++ [row]) w := by
  subst hid
  have he : Ext F m F (m.add h.length gen x) := Ext.add (hn gen)
  obtain ⟨k0, els0, ex0, rfl, g0, C0, e0, cur0, x0⟩ := hrow
  have hx : x = (g0, C0, k0) := by have := x0.mp; rw [Mp.add_same] at this; injection this
  have hold : ∀ i gn y, i < h.length → (m.add h.length gen x).row i gn = y → m.row i gn = y := fun i gn y hi hy => by rw [Mp.add_other (by omega)] at hy; exact hy
  refine ⟨r.fz, fun id1 k1 gen1 els1 ex1 h1 => ?_, fun id1 es c h1 => ?_, fun i gn hne => ?_, fun i hne => ?_, ?_, ?_⟩
  · rcases getElem?_push_row h1 with ⟨rfl, h2⟩ | ⟨hlt, h2⟩
    · injection h2 with a1 a2 a3 a4
      subst a1; subst a2; subst a3; subst a4
      exact ⟨g0, C0, e0, cur0, x0⟩
    · obtain ⟨g1, C1, e1, cur1, y⟩ := r.row _ _ _ _ _ h2
      exact ⟨g1, C1, e1, cur1, ⟨he.row _ _ _ y.mp, y.pos, y.heap, y.own, y.size, y.len, y.exact, y.ty, y.most, y.all, y.cells.mono he, fun gn hgn => y.gens gn (by rw [Mp.add_other (by omega)] at hgn; exact hgn)⟩⟩
  · rcases getElem?_push_row h1 with ⟨rfl, h2⟩ | ⟨hlt, h2⟩
    · cases h2
    · obtain ⟨g1, ents, y⟩ := r.map _ _ _ h2
      exact ⟨g1, ents, ⟨he.map _ _ y.mp, y.heap, y.own, y.ents.mono he⟩⟩
  · by_cases e : i = h.length ∧ gn = gen
    · simp [e.1]
    · rw [Mp.add_other e] at hne
      have := r.fresh i gn hne
      simp; omega
  · have := r.freshM i hne
    simp; omega
  · intro id1 id2 k1 gen1 els1 ex1 k2 gen2 els2 ex2 gg C1 C2 r1 r2 h1 h2 h3 h4
    rcases getElem?_push_row h1 with ⟨rfl, e1⟩ | ⟨hl1, e1⟩ <;> rcases getElem?_push_row h2 with ⟨rfl, e2⟩ | ⟨hl2, e2⟩
    · rfl
    · injection e1 with a1 a2 a3 a4
      subst a2
      rw [Mp.add_same] at h3
      injection h3 with h3
      exact absurd (by rw [h3]) (hfree _ _ _ _ _ _ _ _ e2 (hold _ _ _ hl2 h4))
    · injection e2 with a1 a2 a3 a4
      subst a2
      rw [Mp.add_same] at h4
      injection h4 with h4
      exact absurd (by rw [h4]) (hfree _ _ _ _ _ _ _ _ e1 (hold _ _ _ hl1 h3))
    · exact r.inj _ _ _ _ _ _ _ _ _ _ _ _ _ _ _ e1 e2 (hold _ _ _ hl1 h3) (hold _ _ _ hl2 h4)
  · intro id1 id2 es1 c1 es2 c2 gg h1 h2 h3 h4
    rcases getElem?_push_row h1 with ⟨rfl, e1⟩ | ⟨hl1, e1⟩
    · cases e1
    · rcases getElem?_push_row h2 with ⟨rfl, e2⟩ | ⟨hl2, e2⟩
      · cases e2
      · exact r.injM _ _ _ _ _ _ _ e1 e2 h3 h4

/-- A NEW ROW: its block is new, its first elements are told, the rest is spare. -/
theorem Rel.newRow {F : Fz} {m : Mp} {h : Heap} {w : World} (r : Rel F m h w) {k C : Nat} {els : List AV} {ex : Tag} {cells : Array Value} (hk : 0 < k) (hs : cells.size = C * k)
    (hl : els.length ≤ C) (hx : ex.full = true → els.length = C) (hm : C ≤ maxLen) (ha : allK k els = true) (hc : CL F m els (cells.toList.take (els.length * k))) :
    Rel F (m.add h.length 0 (w.heap.size, C, k)) (h ++ [.row k 0 els ex]) (w.alloc (.cells cells ex.ty)) ∧ Ext F m F (m.add h.length 0 (w.heap.size, C, k)) := by
  have he : Ext F m F (m.add h.length 0 (w.heap.size, C, k)) := Ext.add (r.fresh_none 0)
  have hF : F w.heap.size = none := by
    cases hb : F w.heap.size with
    | none => rfl
    | some o => have := r.fz _ _ hb; simp at this
  refine ⟨(r.alloc _).map_add (fun gn => r.fresh_none gn) rfl _ ⟨k, els, ex, rfl, w.heap.size, C, ex.ty, cells, ?_⟩ (fun b o hb => ?_) (fun i k' gn els' ex' g C' y hi hy => ?_), he⟩
  · refine ⟨Mp.add_same, hk, heap_alloc_self w _, hF, hs, hl, hx, rfl, hm, ha, hc.mono he, fun gn hgn => ?_⟩
    by_cases e0 : gn = 0
    · omega
    · rw [Mp.add_other (by omega), r.fresh_none gn] at hgn
      exact absurd rfl hgn
  · have := (Array.getElem?_eq_some_iff.1 (r.fz b o hb)).1
    simp only [ne_eq]; omega
  · obtain ⟨g1, C1, e1, cur1, z⟩ := r.row _ _ _ _ _ hi
    have h1 := z.mp
    rw [hy] at h1
    injection h1 with h1
    have : g = g1 := congrArg (·.1) h1
    have := (Array.getElem?_eq_some_iff.1 z.heap).1
    simp only [ne_eq]; omega

end Go.AM
