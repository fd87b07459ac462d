/- What an abstract value and an abstract heap say of a world. Conditions: none. -/
import Derived.Test.YtobdjegooonklaaGreatAmRun
import Derived.WalkKit
namespace Go.AM
open Go

/-- What is never written again, and stands so. -/
abbrev Fz := Nat → Option Obj

structure Mp where
  row : Nat → Nat → Option (Nat × Nat × Nat)
  map : Nat → Option Nat

def isTup : Value → Bool
  | .tuple _ => true
  | _ => false

def FC (F : Fz) (a : Addr) (cs : List Value) : Prop :=
  ∀ j v, cs[j]? = some v → ∃ c e fr, F a.block = some (.cells c e fr) ∧ c[a.off + j]? = some v

mutual
def VRel (F : Fz) (m : Mp) : AV → Value → Prop
  | .v x, y => free x = true ∧ y = x
  | .agg l, y => ∃ cs, CL F m l cs ∧ y = .agg cs.toArray
  | .tup l, y => ∃ ys, VL F m l ys ∧ y = .tuple ys.toArray
  | .lit k full l, y => ∃ a cap cs, CL F m l cs ∧ allK k l = true ∧ FC F a cs ∧ a.spot = none ∧ l.length ≤ cap ∧ (full = true → cap = l.length) ∧
      y = .slice (some a) l.length cap
  | .sl id gen off len, y => ∃ g C k a, m.row id gen = some (g, C, k) ∧ off + len ≤ C ∧ a.block = g ∧ a.spot = none ∧ (off < C → a.off = off * k) ∧
      y = .slice (some a) len (C - off)
  | .isl id gen i _ o k off len n, y => ∃ g C K a, m.row id gen = some (g, C, K) ∧ off + len ≤ n ∧ a.block = g ∧ a.spot = none ∧
      (off < n → a.off = i * K + o + off * k) ∧ y = .slice (some a) len (n - off)
  | .ptr id gen i _ o, y => ∃ g C k, m.row id gen = some (g, C, k) ∧ y = .pointer (some ⟨g, i * k + o, none⟩)
  | .rop x, y => ∃ a z, VRel F m x z ∧ isTup z = false ∧ FC F a z.cells.toList ∧ a.spot = none ∧ y = .pointer (some a)
  | .map id, y => ∃ g, m.map id = some g ∧ y = .map (some g)
  | .fn f p q, y => ∃ xs ys, VL F m p xs ∧ VL F m q ys ∧ y = .func f xs.toArray ys.toArray
  | .any, y => y.oneCell' = true
def CL (F : Fz) (m : Mp) : List AV → List Value → Prop
  | [], cs => cs = []
  | x :: l, cs => ∃ y ds, VRel F m x y ∧ isTup y = false ∧ CL F m l ds ∧ cs = y.cells.toList ++ ds
def VL (F : Fz) (m : Mp) : List AV → List Value → Prop
  | [], ys => ys = []
  | x :: l, ys => ∃ y ds, VRel F m x y ∧ VL F m l ds ∧ ys = y :: ds
end

structure Ext (F : Fz) (m : Mp) (F' : Fz) (m' : Mp) : Prop where
  fz : ∀ b o, F b = some o → F' b = some o
  row : ∀ id gen x, m.row id gen = some x → m'.row id gen = some x
  map : ∀ id x, m.map id = some x → m'.map id = some x

theorem Ext.refl (F : Fz) (m : Mp) : Ext F m F m := ⟨fun _ _ h => h, fun _ _ _ h => h, fun _ _ h => h⟩
theorem Ext.trans {F F' F'' : Fz} {m m' m'' : Mp} (h : Ext F m F' m') (k : Ext F' m' F'' m'') : Ext F m F'' m'' :=
  ⟨fun b o x => k.fz b o (h.fz b o x), fun i g x y => k.row i g x (h.row i g x y), fun i x y => k.map i x (h.map i x y)⟩

theorem FC.mono {F F' : Fz} {m m' : Mp} (e : Ext F m F' m') {a : Addr} {cs : List Value} (h : FC F a cs) : FC F' a cs := fun j v hj => by
  obtain ⟨c, t, fr, h1, h2⟩ := h j v hj
  exact ⟨c, t, fr, e.fz _ _ h1, h2⟩

mutual
theorem VRel.mono {F F' : Fz} {m m' : Mp} (e : Ext F m F' m') : ∀ (x : AV) (y : Value), VRel F m x y → VRel F' m' x y
  | .v _, _, h => by simpa [VRel] using h
  | .agg l, y, h => by
    simp only [VRel] at h ⊢
    obtain ⟨cs, h1, h2⟩ := h
    exact ⟨cs, CL.mono e l cs h1, h2⟩
  | .tup l, y, h => by
    simp only [VRel] at h ⊢
    obtain ⟨ys, h1, h2⟩ := h
    exact ⟨ys, VL.mono e l ys h1, h2⟩
  | .lit k full l, y, h => by
    simp only [VRel] at h ⊢
    obtain ⟨a, cap, cs, h1, h2, h3, h4⟩ := h
    exact ⟨a, cap, cs, CL.mono e l cs h1, h2, h3.mono e, h4⟩
  | .sl id gen off len, y, h => by
    simp only [VRel] at h ⊢
    obtain ⟨g, C, k, a, h1, h2⟩ := h
    exact ⟨g, C, k, a, e.row _ _ _ h1, h2⟩
  | .isl id gen i p o k off len n, y, h => by
    simp only [VRel] at h ⊢
    obtain ⟨g, C, K, a, h1, h2⟩ := h
    exact ⟨g, C, K, a, e.row _ _ _ h1, h2⟩
  | .ptr id gen i p o, y, h => by
    simp only [VRel] at h ⊢
    obtain ⟨g, C, k, h1, h2⟩ := h
    exact ⟨g, C, k, e.row _ _ _ h1, h2⟩
  | .rop x, y, h => by
    simp only [VRel] at h ⊢
    obtain ⟨a, z, h1, h2, h3, h4⟩ := h
    exact ⟨a, z, VRel.mono e x z h1, h2, h3.mono e, h4⟩
  | .map id, y, h => by
    simp only [VRel] at h ⊢
    obtain ⟨g, h1, h2⟩ := h
    exact ⟨g, e.map _ _ h1, h2⟩
  | .fn f p q, y, h => by
    simp only [VRel] at h ⊢
    obtain ⟨xs, ys, h1, h2, h3⟩ := h
    exact ⟨xs, ys, VL.mono e p xs h1, VL.mono e q ys h2, h3⟩
  | .any, y, h => by simpa [VRel] using h
theorem CL.mono {F F' : Fz} {m m' : Mp} (e : Ext F m F' m') : ∀ (l : List AV) (cs : List Value), CL F m l cs → CL F' m' l cs
  | [], _, h => by simpa [CL] using h
  | x :: l, cs, h => by
    simp only [CL] at h ⊢
    obtain ⟨y, ds, h1, h2, h3, h4⟩ := h
    exact ⟨y, ds, VRel.mono e x y h1, h2, CL.mono e l ds h3, h4⟩
theorem VL.mono {F F' : Fz} {m m' : Mp} (e : Ext F m F' m') : ∀ (l : List AV) (ys : List Value), VL F m l ys → VL F' m' l ys
  | [], _, h => by simpa [VL] using h
  | x :: l, cs, h => by
    simp only [VL] at h ⊢
    obtain ⟨y, ds, h1, h2, h3⟩ := h
    exact ⟨y, ds, VRel.mono e x y h1, VL.mono e l ds h2, h3⟩
end

/-! ### Cells -/
theorem free_cells {x : Value} (h : free x = true) : x.cells = #[x] ∧ x.oneCell' = true ∧ isTup x = false := by
  cases x <;> simp_all [free, Value.cells, Value.oneCell', isTup]

mutual
theorem VRel.size {F : Fz} {m : Mp} : ∀ (x : AV) (y : Value), VRel F m x y → isTup y = false → y.cells.size = leafs x
  | .v x, y, h, _ => by
    simp only [VRel] at h
    obtain ⟨h, rfl⟩ := h
    simp [(free_cells h).1, leafs]
  | .agg l, y, h, _ => by
    simp only [VRel] at h
    obtain ⟨cs, h1, rfl⟩ := h
    simp [Value.cells, leafs, CL.size l cs h1]
  | .tup l, y, h, ht => by
    simp only [VRel] at h
    obtain ⟨cs, h1, rfl⟩ := h
    simp [isTup] at ht
  | .lit .., y, h, _ => by
    simp only [VRel] at h
    obtain ⟨a, cap, cs, _, _, _, _, _, _, rfl⟩ := h
    simp [Value.cells, leafs]
  | .sl .., y, h, _ => by
    simp only [VRel] at h
    obtain ⟨g, C, k, a, _, _, _, _, _, rfl⟩ := h
    simp [Value.cells, leafs]
  | .isl .., y, h, _ => by
    simp only [VRel] at h
    obtain ⟨g, C, k, a, _, _, _, _, _, rfl⟩ := h
    simp [Value.cells, leafs]
  | .ptr .., y, h, _ => by
    simp only [VRel] at h
    obtain ⟨g, C, k, _, rfl⟩ := h
    simp [Value.cells, leafs]
  | .rop x, y, h, _ => by
    simp only [VRel] at h
    obtain ⟨a, z, _, _, _, _, rfl⟩ := h
    simp [Value.cells, leafs]
  | .map id, y, h, _ => by
    simp only [VRel] at h
    obtain ⟨g, _, rfl⟩ := h
    simp [Value.cells, leafs]
  | .fn f p q, y, h, _ => by
    simp only [VRel] at h
    obtain ⟨xs, ys, _, _, rfl⟩ := h
    simp [Value.cells, leafs]
  | .any, y, h, _ => by
    simp only [VRel] at h
    cases y <;> simp_all [Value.oneCell', Value.cells, leafs]
theorem CL.size {F : Fz} {m : Mp} : ∀ (l : List AV) (cs : List Value), CL F m l cs → cs.length = leafsL l
  | [], _, h => by
    simp only [CL] at h
    simp [h, leafsL]
  | x :: l, cs, h => by
    simp only [CL] at h
    obtain ⟨y, ds, h1, h2, h3, rfl⟩ := h
    simp [leafsL, CL.size l ds h3, ← VRel.size x y h1 h2]
end

mutual
theorem VRel.one {F : Fz} {m : Mp} : ∀ (x : AV) (y : Value), VRel F m x y → isTup y = false → ∀ c ∈ y.cells.toList, c.oneCell' = true
  | .v x, y, h, _ => by
    simp only [VRel] at h
    obtain ⟨h, rfl⟩ := h
    simp [(free_cells h).1, (free_cells h).2.1]
  | .agg l, y, h, _ => by
    simp only [VRel] at h
    obtain ⟨cs, h1, rfl⟩ := h
    simpa [Value.cells] using CL.one l cs h1
  | .tup l, y, h, ht => by
    simp only [VRel] at h
    obtain ⟨cs, h1, rfl⟩ := h
    simp [isTup] at ht
  | .lit .., y, h, _ => by
    simp only [VRel] at h
    obtain ⟨a, cap, cs, _, _, _, _, _, _, rfl⟩ := h
    simp [Value.cells, Value.oneCell']
  | .sl .., y, h, _ => by
    simp only [VRel] at h
    obtain ⟨g, C, k, a, _, _, _, _, _, rfl⟩ := h
    simp [Value.cells, Value.oneCell']
  | .isl .., y, h, _ => by
    simp only [VRel] at h
    obtain ⟨g, C, k, a, _, _, _, _, _, rfl⟩ := h
    simp [Value.cells, Value.oneCell']
  | .ptr .., y, h, _ => by
    simp only [VRel] at h
    obtain ⟨g, C, k, _, rfl⟩ := h
    simp [Value.cells, Value.oneCell']
  | .rop x, y, h, _ => by
    simp only [VRel] at h
    obtain ⟨a, z, _, _, _, _, rfl⟩ := h
    simp [Value.cells, Value.oneCell']
  | .map id, y, h, _ => by
    simp only [VRel] at h
    obtain ⟨g, _, rfl⟩ := h
    simp [Value.cells, Value.oneCell']
  | .fn f p q, y, h, _ => by
    simp only [VRel] at h
    obtain ⟨xs, ys, _, _, rfl⟩ := h
    simp [Value.cells, Value.oneCell']
  | .any, y, h, _ => by
    simp only [VRel] at h
    cases y <;> simp_all [Value.oneCell', Value.cells]
theorem CL.one {F : Fz} {m : Mp} : ∀ (l : List AV) (cs : List Value), CL F m l cs → ∀ c ∈ cs, c.oneCell' = true
  | [], _, h => by
    simp only [CL] at h
    simp [h]
  | x :: l, cs, h => by
    simp only [CL] at h
    obtain ⟨y, ds, h1, h2, h3, rfl⟩ := h
    intro c hc
    rcases List.mem_append.1 hc with hc | hc
    · exact VRel.one x y h1 h2 c hc
    · exact CL.one l ds h3 c hc
end

/-- A value that is no struct is one cell. -/
theorem VRel.scalar {F : Fz} {m : Mp} {x : AV} {y : Value} (h : VRel F m x y) (ht : isTup y = false) (ha : isAggA x = false) : y.cells = #[y] := by
  cases x with
  | agg l => simp [isAggA] at ha
  | v x => simp only [VRel] at h; obtain ⟨h, rfl⟩ := h; exact (free_cells h).1
  | tup l => simp only [VRel] at h; obtain ⟨cs, h1, rfl⟩ := h; simp [isTup] at ht
  | any => simp only [VRel] at h; cases y <;> simp_all [Value.oneCell', Value.cells]
  | lit k full l => simp only [VRel] at h; obtain ⟨a, cap, cs, _, _, _, _, _, _, rfl⟩ := h; rfl
  | sl => simp only [VRel] at h; obtain ⟨g, C, k, a, _, _, _, _, _, rfl⟩ := h; rfl
  | isl => simp only [VRel] at h; obtain ⟨g, C, k, a, _, _, _, _, _, rfl⟩ := h; rfl
  | ptr => simp only [VRel] at h; obtain ⟨g, C, k, _, rfl⟩ := h; rfl
  | rop x => simp only [VRel] at h; obtain ⟨a, z, _, _, _, _, rfl⟩ := h; rfl
  | map id => simp only [VRel] at h; obtain ⟨g, _, rfl⟩ := h; rfl
  | fn f p q => simp only [VRel] at h; obtain ⟨xs, ys, _, _, rfl⟩ := h; rfl

/-- A struct's value is its cells. -/
theorem VRel.ofAgg {F : Fz} {m : Mp} {l : List AV} {y : Value} (h : VRel F m (.agg l) y) : y = .agg y.cells ∧ CL F m l y.cells.toList := by
  simp only [VRel] at h
  obtain ⟨cs, h1, rfl⟩ := h
  exact ⟨rfl, by simpa [Value.cells] using h1⟩

/-! ### Values without addresses -/
mutual
theorem toV_rel {F : Fz} {m : Mp} : ∀ (x : AV) (v : Value), toV x = some v → ∀ y, VRel F m x y → y = v
  | .v x, v, h, y, hy => by
    simp only [VRel] at hy
    obtain ⟨hf, rfl⟩ := hy
    simp [toV, hf] at h
    exact h
  | .agg l, v, h, y, hy => by
    simp only [VRel] at hy
    obtain ⟨cs, h1, rfl⟩ := hy
    simp only [toV] at h
    cases hs : toVs l with
    | none => rw [hs] at h; cases h
    | some ds =>
      rw [hs] at h
      injection h with h
      rw [toVs_rel l ds hs cs h1, h]
  | .tup _, v, h, _, _ => by simp [toV] at h
  | .lit .., v, h, _, _ => by simp [toV] at h
  | .sl .., v, h, _, _ => by simp [toV] at h
  | .isl .., v, h, _, _ => by simp [toV] at h
  | .ptr .., v, h, _, _ => by simp [toV] at h
  | .rop _, v, h, _, _ => by simp [toV] at h
  | .map _, v, h, _, _ => by simp [toV] at h
  | .fn .., v, h, _, _ => by simp [toV] at h
  | .any, v, h, _, _ => by simp [toV] at h
theorem toVs_rel {F : Fz} {m : Mp} : ∀ (l : List AV) (ds : List Value), toVs l = some ds → ∀ cs, CL F m l cs → cs = ds
  | [], ds, h, cs, hc => by
    simp only [CL] at hc
    simp [toVs] at h
    rw [hc, h]
  | x :: l, ds, h, cs, hc => by
    simp only [CL] at hc
    obtain ⟨y, es, h1, h2, h3, rfl⟩ := hc
    simp only [toVs] at h
    cases hx : toV x with
    | none => rw [hx] at h; cases h
    | some v =>
      cases hl : toVs l with
      | none => rw [hx, hl] at h; cases h
      | some fs =>
        rw [hx, hl] at h
        injection h with h
        rw [toV_rel x v hx y h1, toVs_rel l fs hl es h3, h]
end

mutual
theorem toV_self {F : Fz} {m : Mp} : ∀ (x : AV) (v : Value), toV x = some v → VRel F m x v ∧ isTup v = false
  | .v x, v, h => by
    simp only [toV] at h
    cases hf : free x with
    | false => simp [hf] at h
    | true =>
      simp [hf] at h
      subst h
      exact ⟨by simp [VRel, hf], (free_cells hf).2.2⟩
  | .agg l, v, h => by
    simp only [toV] at h
    cases hs : toVs l with
    | none => rw [hs] at h; cases h
    | some ds =>
      rw [hs] at h
      injection h with h
      subst h
      exact ⟨by simp only [VRel]; exact ⟨ds, toVs_self l ds hs, rfl⟩, rfl⟩
  | .tup _, v, h => by simp [toV] at h
  | .lit .., v, h => by simp [toV] at h
  | .sl .., v, h => by simp [toV] at h
  | .isl .., v, h => by simp [toV] at h
  | .ptr .., v, h => by simp [toV] at h
  | .rop _, v, h => by simp [toV] at h
  | .map _, v, h => by simp [toV] at h
  | .fn .., v, h => by simp [toV] at h
  | .any, v, h => by simp [toV] at h
theorem toVs_self {F : Fz} {m : Mp} : ∀ (l : List AV) (ds : List Value), toVs l = some ds → CL F m l ds
  | [], ds, h => by simp [toVs] at h; simp [CL, h]
  | x :: l, ds, h => by
    simp only [toVs] at h
    cases hx : toV x with
    | none => rw [hx] at h; cases h
    | some v =>
      cases hl : toVs l with
      | none => rw [hx, hl] at h; cases h
      | some fs =>
        rw [hx, hl] at h
        injection h with h
        subst h
        simp only [CL]
        exact ⟨v, fs, (toV_self x v hx).1, (toV_self (F := F) (m := m) x v hx).2, toVs_self l fs hl, rfl⟩
end

theorem prun_run {α : Type} {P : Program} (e : Sem α) : ∀ (a : α), prun P e = some a → ∀ w, e.run P w = .ok a w := by
  induction e with
  | pure a => intro b h w; simp [prun] at h; simp [Sem.run, h]
  | program k ih => intro b h w; simp only [prun] at h; simpa [Sem.run] using ih _ b h w
  | mark mk k ih => intro b h w; simp only [prun] at h; simpa [Sem.run] using ih b h w
  | choose q k ih =>
    intro b h w
    simp only [prun] at h
    cases hq : q.forced with
    | false => simp [hq] at h
    | true => simp [hq] at h; simpa [Sem.run, hq] using ih 0 b h w
  | _ => intro b h w; simp [prun] at h

theorem pure1_rel {F : Fz} {m : Mp} {o : Option Value} {x : AV} (h : pure1 o = some x) : ∃ v, o = some v ∧ x = .v v ∧ VRel F m x v ∧ isTup v = false := by
  cases o with
  | none => simp [pure1] at h
  | some v =>
    simp only [pure1] at h
    cases hf : free v with
    | false => simp [hf] at h
    | true =>
      simp [hf] at h
      subst h
      exact ⟨v, rfl, rfl, by simp [VRel, hf], (free_cells hf).2.2⟩

end Go.AM
