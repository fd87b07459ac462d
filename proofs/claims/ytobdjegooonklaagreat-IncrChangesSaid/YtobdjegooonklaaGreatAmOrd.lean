/- The order of prefixes as a plain function. Conditions: none. -/
import Derived.Test.YtobdjegooonklaaGreatAmTypes
import Derived.Sort.Statements
import Derived.Test.YtobdjegooonklaaGreatAmSim
import Derived.Test.YtobdjegooonklaaGreatAmBridge
import Derived.Test.YtobdjegooonklaaGreatAmIn
import Derived.Shelf.SlSortCmp.WholeK
set_option linter.unusedSimpArgs false
set_option linter.unusedVariables false
namespace Go.AM
open Go
theorem loopN_stepK {body : St → Option (Ex × St)} {l : List Nat} {n : Nat} {fr fk : FR} {h : Heap} {ds ls : List Nat} {fr' : FR} {h' : Heap} {ds' ls' : List Nat} (hk : keepF l fr = fk) (hb : body ⟨fk, h, ds, ls⟩ = some (.normal, ⟨fr', h', ds', ls'⟩)) :
    loopN body l (n + 1) ⟨fr, h, ds, ls⟩ = loopN body l n ⟨fr', h', ds', ls'⟩ := loopN_step (by rw [hk]; exact hb)
theorem loopN_outK {body : St → Option (Ex × St)} {l : List Nat} {n i : Nat} {fr fk : FR} {h : Heap} {ds ls : List Nat} {st : St} (hk : keepF l fr = fk) (hb : body ⟨fk, h, ds, ls⟩ = some (.exit i, st)) :
    loopN body l (n + 1) ⟨fr, h, ds, ls⟩ = some (.exit i, st) := loopN_out (by rw [hk]; exact hb)
theorem loopN_retK {body : St → Option (Ex × St)} {l : List Nat} {n : Nat} {fr fk : FR} {h : Heap} {ds ls : List Nat} {st : St} (hk : keepF l fr = fk) (hb : body ⟨fk, h, ds, ls⟩ = some (.ret, st)) :
    loopN body l (n + 1) ⟨fr, h, ds, ls⟩ = some (.ret, st) := loopN_ret (by rw [hk]; exact hb)
end Go.AM

namespace Go.Proofs.YtobdjegooonklaaGreat
open Go Go.AM

def cmpI (a b : Int) : Int := if a < b then -1 else if b < a then 1 else 0
def or3 (a b c : Int) : Int := if a ≠ 0 then a else if b ≠ 0 then b else if c ≠ 0 then c else 0
def kindI (six : Bool) : Int := if six then 1 else 0
def cmpB (a b : List UInt8) : Int := Extern.BytealgCompare.cmp ⟨a.toArray⟩ ⟨b.toArray⟩
def cmpP (p q : Pre) : Int := or3 (cmpI (kindI p.six) (kindI q.six)) (cmpB p.ad q.ad) (cmpI p.len q.len)

/-! ### Lists of numbers, by their first unlike ones -/
def lexI : List Int → List Int → Int
  | [], [] => 0
  | [], _ :: _ => -1
  | _ :: _, [] => 1
  | x :: l, y :: r => if x < y then -1 else if y < x then 1 else lexI l r

theorem lexI_self : ∀ l : List Int, lexI l l = 0
  | [] => rfl
  | x :: l => by simp [lexI, lexI_self l]
theorem lexI_neg : ∀ l r : List Int, lexI r l = - lexI l r
  | [], [] => rfl
  | [], _ :: _ => rfl
  | _ :: _, [] => rfl
  | x :: l, y :: r => by
    simp only [lexI]
    by_cases h1 : x < y
    · have : ¬ y < x := by omega
      simp [h1, this]
    · by_cases h2 : y < x
      · simp [h1, h2]
      · simp [h1, h2, lexI_neg l r]
theorem lexI_zero : ∀ {l r : List Int}, lexI l r = 0 → l = r
  | [], [], _ => rfl
  | [], _ :: _, h => by simp [lexI] at h
  | _ :: _, [], h => by simp [lexI] at h
  | x :: l, y :: r, h => by
    simp only [lexI] at h
    by_cases h1 : x < y
    · simp [h1] at h
    · by_cases h2 : y < x
      · simp [h1, h2] at h
      · simp [h1, h2] at h
        rw [lexI_zero h, show x = y by omega]
theorem lexI_lt : ∀ {a b c : List Int}, lexI a b < 0 → lexI b c < 0 → lexI a c < 0
  | [], [], _, h, _ => by simp [lexI] at h
  | [], _ :: _, [], _, h => by simp [lexI] at h
  | [], _ :: _, _ :: _, _, _ => by simp [lexI]
  | _ :: _, [], _, h, _ => by simp [lexI] at h
  | _ :: _, _ :: _, [], _, h => by simp [lexI] at h
  | x :: a, y :: b, z :: c, h, k => by
    simp only [lexI] at h k ⊢
    by_cases h1 : x < y
    · by_cases k1 : y < z
      · rw [if_pos (by omega)]; decide
      · by_cases k2 : z < y
        · simp [k1, k2] at k
        · rw [if_pos (by omega)]; decide
    · by_cases h2 : y < x
      · simp [h1, h2] at h
      · by_cases k1 : y < z
        · rw [if_pos (by omega)]; decide
        · by_cases k2 : z < y
          · simp [k1, k2] at k
          · simp only [h1, h2, if_false] at h
            simp only [k1, k2, if_false] at k
            rw [if_neg (by omega), if_neg (by omega)]
            exact lexI_lt h k
theorem lexI_cases (l r : List Int) : lexI l r = -1 ∨ lexI l r = 0 ∨ lexI l r = 1 := by
  fun_induction lexI l r <;> simp_all
theorem lexI_append : ∀ {l r : List Int} (l' r' : List Int), l.length = r.length → lexI (l ++ l') (r ++ r') = if lexI l r ≠ 0 then lexI l r else lexI l' r'
  | [], [], l', r', _ => by simp [lexI]
  | [], _ :: _, _, _, h => by simp at h
  | _ :: _, [], _, _, h => by simp at h
  | x :: l, y :: r, l', r', h => by
    simp only [List.cons_append, lexI]
    by_cases h1 : x < y
    · simp [h1]
    · by_cases h2 : y < x
      · simp [h1, h2]
      · simp only [h1, h2, if_false]
        exact lexI_append l' r' (by simpa using h)
theorem lexI_one (x y : Int) : lexI [x] [y] = cmpI x y := by simp [lexI, cmpI]

def nums (l : List UInt8) : List Int := l.map fun b => (b.toNat : Int)
theorem nums_inj : ∀ {a b : List UInt8}, nums a = nums b → a = b
  | [], [], _ => rfl
  | [], _ :: _, h => by simp [nums] at h
  | _ :: _, [], h => by simp [nums] at h
  | x :: a, y :: b, h => by
    simp only [nums, List.map_cons, List.cons.injEq] at h
    have h1 : x.toNat = y.toNat := by omega
    rw [UInt8.toNat_inj.1 h1, nums_inj h.2]

theorem find_congr {α : Type} {p q : α → Bool} : ∀ {l : List α}, (∀ x ∈ l, p x = q x) → l.find? p = l.find? q
  | [], _ => rfl
  | x :: l, h => by
    rw [List.find?_cons, List.find?_cons, h x (List.mem_cons_self ..), find_congr fun y hy => h y (List.mem_cons_of_mem _ hy)]

theorem find_succ {p : Nat → Bool} {n : Nat} : (List.range (n + 1)).find? p = if p 0 then some 0 else ((List.range n).find? fun i => p (i + 1)).map (· + 1) := by
  rw [List.range_succ_eq_map, List.find?_cons]
  cases p 0 with
  | true => rfl
  | false =>
    simp only [Bool.false_eq_true, if_false]
    rw [List.find?_map]
    rfl

theorem get_bang (l : List UInt8) (i : Nat) (h : i < l.length) : (⟨l.toArray⟩ : ByteArray)[i]! = l[i] := by
  have hs : i < (⟨l.toArray⟩ : ByteArray).size := by show i < l.toArray.size; simpa using h
  rw [getElem!_pos _ i hs]
  rfl

theorem cmpB_lex : ∀ (a b : List UInt8), a.length = b.length → cmpB a b = lexI (nums a) (nums b)
  | [], [], _ => rfl
  | [], _ :: _, h => by simp at h
  | _ :: _, [], h => by simp at h
  | x :: a, y :: b, h => by
    have hl : a.length = b.length := by simpa using h
    have ih := cmpB_lex a b hl
    unfold cmpB Extern.BytealgCompare.cmp at ih ⊢
    have s1 : (⟨(x :: a).toArray⟩ : ByteArray).size = a.length + 1 := rfl
    have s2 : (⟨(y :: b).toArray⟩ : ByteArray).size = a.length + 1 := by rw [hl]; rfl
    have s3 : (⟨a.toArray⟩ : ByteArray).size = a.length := rfl
    have s4 : (⟨b.toArray⟩ : ByteArray).size = a.length := by rw [hl]; rfl
    rw [s1, s2, Nat.min_self, find_succ]
    rw [s3, s4, Nat.min_self] at ih
    have g0 : (⟨(x :: a).toArray⟩ : ByteArray)[0]! = x := get_bang (x :: a) 0 (by simp)
    have g1 : (⟨(y :: b).toArray⟩ : ByteArray)[0]! = y := get_bang (y :: b) 0 (by simp)
    have hc : ((List.range a.length).find? fun i => (⟨(x :: a).toArray⟩ : ByteArray)[i + 1]! != (⟨(y :: b).toArray⟩ : ByteArray)[i + 1]!) = (List.range a.length).find? fun i => (⟨a.toArray⟩ : ByteArray)[i]! != (⟨b.toArray⟩ : ByteArray)[i]! := by
      refine find_congr fun i hi => ?_
      have hi' : i < a.length := List.mem_range.1 hi
      rw [get_bang (x :: a) (i + 1) (by simp; omega), get_bang (y :: b) (i + 1) (by simp; omega), get_bang a i hi', get_bang b i (by omega)]
      simp
    rw [hc, g0, g1]
    simp only [nums, List.map_cons, lexI]
    by_cases hxy : x = y
    · subst hxy
      have e : (x != x) = false := by simp
      rw [e]
      simp only [Bool.false_eq_true, if_false, Int.lt_irrefl]
      show _ = lexI (nums a) (nums b)
      rw [← ih]
      cases hf : (List.range a.length).find? fun i => (⟨a.toArray⟩ : ByteArray)[i]! != (⟨b.toArray⟩ : ByteArray)[i]! with
      | none => simp
      | some i =>
        have hi' : i < a.length := List.mem_range.1 (List.mem_of_find?_eq_some hf)
        simp only [Option.map_some]
        rw [get_bang (x :: a) (i + 1) (by simp; omega), get_bang (x :: b) (i + 1) (by simp; omega), get_bang a i hi', get_bang b i (by omega)]
        simp
    · have e : (x != y) = true := by simp [hxy]
      rw [e]
      simp only [if_true, g0, g1]
      have hne : x.toNat ≠ y.toNat := fun hh => hxy (UInt8.toNat_inj.1 hh)
      by_cases hlt : x.toNat < y.toNat
      · rw [if_pos (UInt8.lt_iff_toNat_lt.2 hlt), if_pos (by omega)]
      · rw [if_neg (fun hh => hlt (UInt8.lt_iff_toNat_lt.1 hh)), if_neg (by omega), if_pos (by omega)]

def Pre.key (p : Pre) : List Int := [kindI p.six] ++ (nums p.ad ++ [p.len])
theorem Pre.key_inj {p q : Pre} (h : p.key = q.key) : p = q := by
  obtain ⟨s1, a1, n1⟩ := p
  obtain ⟨s2, a2, n2⟩ := q
  simp only [Pre.key, List.singleton_append, List.cons.injEq] at h
  obtain ⟨h1, h2⟩ := h
  have h3 := List.append_inj' h2 rfl
  have hs : s1 = s2 := by cases s1 <;> cases s2 <;> simp_all [kindI]
  rw [hs, nums_inj h3.1]
  simpa using h3.2
theorem cmpP_lex {p q : Pre} (hp : p.ad.length = 16) (hq : q.ad.length = 16) : cmpP p q = lexI p.key q.key := by
  unfold cmpP Pre.key or3
  rw [lexI_append (l := [kindI p.six]) (r := [kindI q.six]) _ _ rfl, lexI_append (l := nums p.ad) (r := nums q.ad) _ _ (by simp [nums, hp, hq]), lexI_one, lexI_one, cmpB_lex _ _ (by rw [hp, hq])]
  by_cases h1 : cmpI (kindI p.six) (kindI q.six) = 0
  · by_cases h2 : lexI (nums p.ad) (nums q.ad) = 0
    · by_cases h3 : cmpI p.len q.len = 0 <;> simp [h1, h2, h3]
    · simp [h1, h2]
  · simp [h1]

end Go.Proofs.YtobdjegooonklaaGreat

set_option linter.unusedVariables false
set_option linter.unusedSimpArgs false
namespace Go.AM
open Go

variable {F F' : Fz} {m m' : Mp} {h : Heap} {w : World} {P : Program}

/-- Worlds in which all old memory stands. -/
theorem Rel.of_old (r : Rel F m h w) {w' : World} (ho : ∀ (b : Nat) (x : Obj), w.heap[b]? = some x → w'.heap[b]? = some x) : Rel F m h w' := by
  refine ⟨fun b x hb => ho _ _ (r.fz b x hb), fun id k gen els ex hi => ?_, fun id es c hi => ?_, r.fresh, r.freshM, r.inj, r.injM⟩
  · obtain ⟨g, C, t, cur, x⟩ := r.row id k gen els ex hi
    exact ⟨g, C, t, cur, ⟨x.mp, x.pos, ho _ _ x.heap, x.own, x.size, x.len, x.exact, x.ty, x.most, x.all, x.cells, x.gens⟩⟩
  · obtain ⟨g, ents, x⟩ := r.map id es c hi
    exact ⟨g, ents, ⟨x.mp, ho _ _ x.heap, x.own, x.ents⟩⟩

/-- A world that has only more. -/
theorem grow_of {w' : World} (hs : Same w w') (hp : ∀ k, k < w.heap.size → w'.heap[k]? = w.heap[k]?) : ∃ q os', w' = Sort.grow (w.drewN q) os' := by
  obtain ⟨h1, h2, h3, h4, h5⟩ := hs
  refine ⟨w'.drawn - w.drawn, w'.heap.extract w.heap.size w'.heap.size, ?_⟩
  obtain ⟨hp1, tp1, dr1, os1, ou1⟩ := w
  obtain ⟨hp2, tp2, dr2, os2, ou2⟩ := w'
  simp only at h1 h2 h3 h4 h5 hp
  subst h1; subst h2; subst h3
  simp only [Sort.grow, World.drewN, World.mk.injEq, true_and, and_true]
  refine ⟨?_, by omega⟩
  apply Array.ext_getElem?
  intro k
  rw [Array.getElem?_append]
  split
  · rename_i hk
    exact hp k hk
  · rename_i hk
    rw [Array.getElem?_extract]
    split
    · rw [show hp1.size + (k - hp1.size) = k by omega]
    · rw [Array.getElem?_eq_none (by omega)]

/-- A call that the abstract machine ends with a number, nothing written. -/
theorem num_calls {E : Env} (H : E.OK) {n : Nat} {f : FuncId} {fn : Func} {c : Code} (hf : E.P.funcs[f]? = some fn) (hb : fn.body = some c) (hn : (fn.name == "runtime.NumGoroutine") = false) {args : List AV} {vs : List Value} {W : World} {kd : IntKind} {b : Int} {h : Heap} {e : Eff}
    (hc : call E n f args [] = some (.v (.int kd b), h, e)) (hv : VL (F0 W) m0 args vs) : Calls E.P f vs.toArray W fun e W' => e = .returned (.int kd b) ∧ ∃ q os', W' = Sort.grow (W.drewN q) os' := by
  have key := (call_ok H n).1 _ _ _ _ _ _ hc (F0 W) m0 W vs (rel0 W) hv (fun v w' => v = .int kd b ∧ ∃ q os', w' = Sort.grow (W.drewN q) os') (fun v w' F' m' he hvr hr hsm => by
    simp only [VRel] at hvr
    refine ⟨hvr.2, grow_of hsm fun k hk => ?_⟩
    have h1 : F0 W k = some W.heap[k] := Array.getElem?_eq_getElem hk
    rw [hr.fz k _ (he.fz k _ h1)]
    exact (Array.getElem?_eq_getElem hk).symm)
  rw [callFunc_enter hf hb hn] at key
  simp only [UponC] at key
  refine key.mono ?_
  rintro e w' ⟨v, rfl, rfl, hbl⟩
  exact ⟨rfl, hbl⟩

/-! ### Cells in a row -/
theorem flat_at {α : Type} [Inhabited α] {enc : α → List Value} {k : Nat} (hk : ∀ x, (enc x).length = k) (h0 : 0 < k) : ∀ (d : List α) (t : Nat), t < d.length * k → (d.flatMap enc)[t]? = some ((enc d[t / k]!)[t % k]!)
  | [], t, h => by simp at h
  | x :: d, t, h => by
    rw [List.flatMap_cons]
    by_cases ht : t < k
    · rw [List.getElem?_append_left (by rw [hk]; exact ht), Nat.div_eq_of_lt ht, Nat.mod_eq_of_lt ht]
      have : t < (enc x).length := by rw [hk]; exact ht
      simp [List.getElem?_eq_getElem this]
    · have hle : k ≤ t := Nat.le_of_not_lt ht
      rw [List.getElem?_append_right (by rw [hk]; exact hle), hk, flat_at hk h0 d (t - k) (by simp only [List.length_cons, Nat.add_mul] at h; omega)]
      have e1 : t / k = (t - k) / k + 1 := by
        rw [← Nat.sub_add_cancel hle, Nat.add_div_right _ h0, Nat.sub_add_cancel hle]
      have e2 : t % k = (t - k) % k := by
        rw [← Nat.sub_add_cancel hle, Nat.add_mod_right, Nat.sub_add_cancel hle]
      rw [e1, e2]
      simp

theorem flat_length {α : Type} {enc : α → List Value} {k : Nat} (hk : ∀ x, (enc x).length = k) : ∀ d : List α, (d.flatMap enc).length = d.length * k
  | [] => by simp
  | x :: d => by rw [List.flatMap_cons, List.length_append, flat_length hk d, hk, List.length_cons, Nat.add_mul]; omega

theorem flatK_list {α : Type} [Inhabited α] {enc : α → List Value} {k : Nat} (hk : ∀ x, (enc x).length = k) (h0 : 0 < k) (d : List α) : (Sort.flatK enc k d.toArray).toList = d.flatMap enc := by
  apply List.ext_getElem?
  intro t
  by_cases ht : t < d.length * k
  · rw [flat_at hk h0 d t ht]
    have := Sort.get_flatK enc k d.toArray t (by simpa using ht)
    have hs : t < (Sort.flatK enc k d.toArray).size := by simpa using ht
    rw [getElem!_pos _ t hs] at this
    rw [Array.getElem?_toList, Array.getElem?_eq_getElem hs, this]
    simp
  · rw [List.getElem?_eq_none (by simpa using Nat.le_of_not_lt ht), List.getElem?_eq_none (by rw [flat_length hk]; exact Nat.le_of_not_lt ht)]

theorem toVs_map {α : Type} {enc : α → List Value} {av : α → AV} (hav : ∀ x, ∃ v, toV (av x) = some v ∧ v.cells.toList = enc x) : ∀ d : List α, toVs (d.map av) = some (d.flatMap enc)
  | [] => rfl
  | x :: d => by
    obtain ⟨v, h1, h2⟩ := hav x
    simp [toVs, h1, h2, toVs_map hav d]

theorem allK_map {α : Type} {enc : α → List Value} {av : α → AV} {k : Nat} (hk : ∀ x, (enc x).length = k) (hav : ∀ x, ∃ v, toV (av x) = some v ∧ v.cells.toList = enc x) : ∀ d : List α, allK k (d.map av) = true
  | [] => rfl
  | x :: d => by
    obtain ⟨v, v1, v2⟩ := hav x
    have hx : leafs (av x) = k := by
      have := VRel.size (av x) v (toV_self (F := fun _ => none) (m := m0) _ _ v1).1 (toV_self (F := fun _ => none) (m := m0) _ _ v1).2
      rw [← this, ← hk x, ← v2]
      simp
    simp [allK, hx, allK_map hk hav d]

theorem putCells_list {F cur : Array Value} (hs : F.size ≤ cur.size) : (Sort.putCells id 0 F cur).toList = F.toList ++ cur.toList.drop F.size := by
  apply List.ext_getElem?
  intro t
  rw [Array.getElem?_toList]
  simp only [Sort.putCells, Array.getElem?_mapIdx]
  by_cases ht : t < F.size
  · rw [List.getElem?_append_left (by simpa using ht), Array.getElem?_eq_getElem (by omega), Array.getElem?_toList, Array.getElem?_eq_getElem ht]
    simp [ht]
  · rw [List.getElem?_append_right (by simpa using Nat.le_of_not_lt ht), List.getElem?_drop]
    simp only [Array.length_toList, Array.getElem?_toList]
    rw [show F.size + (t - F.size) = t by omega]
    cases hc : cur[t]? with
    | none => rfl
    | some x => simp [ht]

/-- A ROW's ELEMENTS SORTED IN PLACE: the row holds what the sort asks, and what it leaves is told. -/
theorem sort_row (r : Rel F m h w) {α : Type} [Inhabited α] {enc : α → List Value} {av : α → AV} {k id gen : Nat} {ex : Tag} {d : List α} (hi : h[id]? = some (.row k gen (d.map av) ex)) (hk : ∀ x, (enc x).length = k) (hav : ∀ x, ∃ v, toV (av x) = some v ∧ v.cells.toList = enc x) :
    ∃ g C, m.row id gen = some (g, C, k) ∧ g < w.heap.size ∧ d.length ≤ C ∧ C ≤ maxLen ∧ Sort.HoldsK enc k w g 0 d.toArray ∧
      ∀ (d' : List α) (n : Nat) (os : Array Obj), d'.length = d.length → Rel F m (h.set id (.row k gen (d'.map av) ex)) (Proofs.sortWorldK enc k w g 0 n d'.toArray os) ∧ Same w (Proofs.sortWorldK enc k w g 0 n d'.toArray os) := by
  obtain ⟨g, C, e, cur, x⟩ := r.row _ _ _ _ _ hi
  have hlt : g < w.heap.size := (Array.getElem?_eq_some_iff.1 x.heap).1
  have hcells : cur.toList.take (d.length * k) = d.flatMap enc := by
    have := toVs_rel _ _ (toVs_map hav d) _ x.cells
    simpa using this
  have hlen : d.length * k ≤ cur.size := by
    rw [x.size]
    exact Nat.mul_le_mul_right _ (by simpa using x.len)
  refine ⟨g, C, x.mp, hlt, by simpa using x.len, x.most, fun t ht => ?_, fun d' n os hd => ?_⟩
  · have ht' : t < d.length * k := by simpa using ht
    have hget : (Sort.flatK enc k d.toArray)[t]! = cur[t]'(by omega) := by
      have h1 := flatK_list hk x.pos d
      rw [← hcells] at h1
      have h2 : (Sort.flatK enc k d.toArray).toList[t]? = some (cur[t]'(by omega)) := by
        rw [h1, List.getElem?_take_of_lt ht', Array.getElem?_toList, Array.getElem?_eq_getElem (by omega)]
      rw [Array.getElem?_toList] at h2
      rw [getElem!_def, h2]
    rw [Nat.zero_add]
    refine ⟨?_, ?_⟩
    · rw [hget]
      simp [World.cell?, x.heap, Array.getElem?_eq_getElem (show t < cur.size by omega)]
    · simp [World.frozen?, x.heap]
  · have hfs : (Sort.flatK enc k d'.toArray).size = d.length * k := by simp [hd]
    have hpl := putCells_list (F := Sort.flatK enc k d'.toArray) (cur := cur) (by rw [hfs]; exact hlen)
    have hcur : (Sort.putCells _root_.id 0 (Sort.flatK enc k d'.toArray) cur).size = cur.size := by simp [Sort.putCells]
    have r1 := Rel.setRow r hi x (els' := d'.map av) hcur (by simpa [hd] using x.len) (fun hf => by simpa [hd] using x.exact hf) ?_ ?_
    · refine ⟨Rel.of_old (r1.of_heap (w' := Sort.putRowK enc k (Sort.ahead w n) g 0 d'.toArray) ?_) fun b y hb => ?_, ⟨rfl, rfl, rfl, ?_, Nat.le_add_right _ _⟩⟩
      · show (Sort.mapBlock (Sort.ahead w n) g (Sort.putCells _root_.id 0 (Sort.flatK enc k d'.toArray))).heap = (w.setRow g _).heap
        simp only [Sort.mapBlock, Sort.ahead, World.setRow]
        apply Array.ext_getElem?
        intro b
        rw [Array.getElem?_modify, Array.getElem?_modify]
        split
        · rename_i hb
          subst hb
          rw [x.heap]
          rfl
        · rfl
      · have hb' : b < (Sort.putRowK enc k (Sort.ahead w n) g 0 d'.toArray).heap.size := (Array.getElem?_eq_some_iff.1 hb).1
        show (_ ++ os)[b]? = _
        rw [Array.getElem?_append_left hb']
        exact hb
      · show w.heap.size ≤ (_ ++ os).size
        simp [Sort.putRowK, Sort.putRow, Sort.mapBlock, Sort.ahead]
    · exact allK_map hk hav d'
    · rw [hpl]
      have e1 : (d'.map av).length * k = (Sort.flatK enc k d'.toArray).toList.length := by simp
      rw [e1, List.take_left, flatK_list hk x.pos]
      exact toVs_self _ _ (toVs_map hav d')

end Go.AM
