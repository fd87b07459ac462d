/- Each operation of the abstract machine is one of the real machine. Conditions: none. -/
import Derived.Test.YtobdjegooonklaaGreatAmRel
set_option linter.unusedVariables false
set_option linter.unusedSimpArgs false
namespace Go.AM
open Go

structure FRel (F : Fz) (m : Mp) (fr : FR) (tmps : Array Value) : Prop where
  get : ∀ t y, get fr t = some y → ∃ v, tmps[t]? = some v ∧ VRel F m y v

theorem FRel.mono {F F' : Fz} {m m' : Mp} (e : Ext F m F' m') {fr : FR} {tmps : Array Value} (h : FRel F m fr tmps) : FRel F' m' fr tmps :=
  ⟨fun t y ht => by obtain ⟨v, h1, h2⟩ := h.get t y ht; exact ⟨v, h1, h2.mono e⟩⟩

variable {F : Fz} {m : Mp} {fr : FR} {a : Act} {h : Heap} {w : World} {P : Program}

theorem ev_rel (hf : FRel F m fr a.tmps) {x : Operand} {y : AV} (hy : ev fr x = some y) : VRel F m y (a.eval x) := by
  cases x with
  | tmp t =>
    simp only [ev] at hy
    obtain ⟨v, h1, h2⟩ := hf.get t y hy
    have : a.eval (.tmp t) = v := by simp [Act.eval, Array.getD_eq_getD_getElem?, h1]
    rw [this]; exact h2
  | const x =>
    simp only [ev] at hy
    cases hx : free x with
    | false => simp [hx] at hy
    | true => simp [hx] at hy; subst hy; simp [VRel, hx, Act.eval]
  | global g => simp [ev] at hy
  | func f =>
    simp only [ev] at hy
    injection hy with hy
    subst hy
    simp [VRel, VL, Act.eval]

theorem evL_rel (hf : FRel F m fr a.tmps) : ∀ {l : List Operand} {ys : List AV}, evL fr l = some ys → VL F m ys (l.map a.eval)
  | [], ys, hy => by simp [evL] at hy; simp [hy, VL]
  | x :: l, ys, hy => by
    simp only [evL] at hy
    cases hx : ev fr x with
    | none => rw [hx] at hy; cases hy
    | some y =>
      cases hl : evL fr l with
      | none => rw [hx, hl] at hy; cases hy
      | some zs =>
        rw [hx, hl] at hy
        injection hy with hy
        subst hy
        simp only [VL, List.map_cons]
        exact ⟨_, _, ev_rel hf hx, evL_rel hf hl, rfl⟩

def PL (F : Fz) (m : Mp) : List (Nat × AV) → List (Nat × Value) → Prop
  | [], vs => vs = []
  | (i, y) :: l, vs => ∃ v r, VRel F m y v ∧ PL F m l r ∧ vs = (i, v) :: r

theorem evP_rel (hf : FRel F m fr a.tmps) : ∀ {l : List (Nat × Operand)} {ys : List (Nat × AV)}, evP fr l = some ys → PL F m ys (l.map fun q => (q.1, a.eval q.2))
  | [], ys, hy => by simp [evP] at hy; simp [hy, PL]
  | (i, x) :: l, ys, hy => by
    simp only [evP] at hy
    cases hx : ev fr x with
    | none => rw [hx] at hy; cases hy
    | some y =>
      cases hl : evP fr l with
      | none => rw [hx, hl] at hy; cases hy
      | some zs =>
        rw [hx, hl] at hy
        injection hy with hy
        subst hy
        simp only [PL, List.map_cons]
        exact ⟨_, _, ev_rel hf hx, evP_rel hf hl, rfl⟩

theorem notTup_of {x : AV} {y : Value} (hr : VRel F m x y) (hx : isTupA x = false) : isTup y = false := by
  cases x with
  | tup l => simp [isTupA] at hx
  | v x => simp only [VRel] at hr; obtain ⟨hr, rfl⟩ := hr; exact (free_cells hr).2.2
  | agg l => obtain ⟨cs, _, rfl⟩ := (show ∃ cs, _ ∧ _ by simpa only [VRel] using hr); rfl
  | any => simp only [VRel] at hr; cases y <;> simp_all [Value.oneCell', isTup]
  | lit k full l => simp only [VRel] at hr; obtain ⟨a, cap, cs, _, _, _, _, _, _, rfl⟩ := hr; rfl
  | sl => simp only [VRel] at hr; obtain ⟨g, C, k, a, _, _, _, _, _, rfl⟩ := hr; rfl
  | isl => simp only [VRel] at hr; obtain ⟨g, C, k, a, _, _, _, _, _, rfl⟩ := hr; rfl
  | ptr => simp only [VRel] at hr; obtain ⟨g, C, k, _, rfl⟩ := hr; rfl
  | rop x => simp only [VRel] at hr; obtain ⟨a, z, _, _, _, _, rfl⟩ := hr; rfl
  | map id => simp only [VRel] at hr; obtain ⟨g, _, rfl⟩ := hr; rfl
  | fn f p q => simp only [VRel] at hr; obtain ⟨xs, ys, _, _, rfl⟩ := hr; rfl

/-! ### Types -/
theorem szOf_run {t : TypeId} {n : Nat} (ht : szOf P t = some n) (w : World) : (sizeOf t).run P w = .ok n w := by
  simp only [szOf, Option.map_eq_some_iff] at ht
  obtain ⟨i, h1, h2⟩ := ht
  simp [sizeOf, typeInfo, h1, h2]

theorem szOf_info {t : TypeId} {n : Nat} (ht : szOf P t = some n) : ∃ i, P.info? t = some i ∧ i.size = n := by
  simpa only [szOf, Option.map_eq_some_iff] using ht

theorem aggT_run {t : TypeId} {b : Bool} (ht : aggT P t = some b) (w : World) : (isAgg t).run P w = .ok b w := by
  unfold aggT at ht
  cases hu : P.underlying t with
  | none => rw [hu] at ht; cases ht
  | some d =>
    rw [hu] at ht
    have hr := run_underlying hu w
    cases d <;> simp_all [isAgg]

/-! ### Loads -/
/-- A variable's cells known: what is read of it. -/
theorem run_loadVar_of {t : TypeId} {ad : Addr} {y : AV} {z : Value} (hr : VRel F m y z) (ht : isTup z = false) (hs : szOf P t = some (leafs y)) (ha : aggT P t = some (isAggA y))
    (hc : ∀ j v, z.cells.toList[j]? = some v → w.cell? (ad.add j) = some v) : (loadVar t ad).run P w = .ok z w := by
  have hsz : z.cells.toList.length = leafs y := by simp [VRel.size y z hr ht]
  have hl := run_loadCells_list (P := P) w ad z.cells.toList hc
  rw [hsz] at hl
  unfold loadVar
  simp only [Sem.run_bind, aggT_run ha, Result.andThen_ok]
  cases hg : isAggA y with
  | true =>
    simp only [if_true, Sem.run_bind, szOf_run hs, Result.andThen_ok, hl, Sem.run_pure]
    cases y <;> simp [isAggA] at hg
    obtain ⟨h1, _⟩ := hr.ofAgg
    rw [h1]
    simp [Value.cells]
  | false =>
    have h1 := hr.scalar ht hg
    have h0 := hc 0 z (by rw [h1]; simp)
    have : ad.add 0 = ad := by simp [Addr.add]
    rw [this] at h0
    simp [h0]

theorem add_off (g o j : Nat) : (⟨g, o, none⟩ : Addr).add j = ⟨g, o + j, none⟩ := by unfold Addr.add; split <;> simp_all

theorem add_any {ad : Addr} (h : ad.spot = none) (j : Nat) : ad.add j = ⟨ad.block, ad.off + j, none⟩ := by
  obtain ⟨b, o, s⟩ := ad
  simp only at h
  subst h
  exact add_off b o j

/-- The cells of one place in a row. -/
theorem row_cells {id k gen : Nat} {els : List AV} {ex : Tag} {g C : Nat} {e : TypeId} {cur : Array Value} (x : RowR F m w id k gen els ex g C e cur) {i : Nat} {z : AV} (hi : els[i]? = some z)
    {p : List Nat} {o : Nat} {y : AV} (hn : nav z p o = some y) :
    ∃ v, VRel F m y v ∧ isTup v = false ∧ (∀ j c, v.cells.toList[j]? = some c → w.cell? ⟨g, i * k + o + j, none⟩ = some c) ∧ o + leafs y ≤ k ∧ i * k + k ≤ els.length * k := by
  have hil := lt_of_getElem? hi
  have hmul : i * k + k ≤ els.length * k := by have := Nat.mul_le_mul_right k (show i + 1 ≤ els.length by omega); rwa [Nat.add_mul, Nat.one_mul] at this
  obtain ⟨v, h1, h2, h3⟩ := CL_get x.cells x.all hi
  obtain ⟨u, g1, g2, g3, g4⟩ := nav_rel z p o y hn v h1 h2
  have hz : leafs z = k := allK_get x.all hi
  rw [hz] at g4
  refine ⟨u, g1, g2, fun j c hj => ?_, g4, hmul⟩
  have hjl : j < leafs y := by have := lt_of_getElem? hj; rwa [Array.length_toList, VRel.size y u g1 g2] at this
  rw [g3, h3] at hj
  simp only [List.getElem?_take, List.getElem?_drop] at hj
  rw [if_pos hjl, if_pos (by omega), if_pos (by omega)] at hj
  simp only [World.cell?, x.heap]
  rw [show i * k + o + j = i * k + (o + j) by omega]
  simpa using hj

theorem partE_eq {t : TypeId} {q : Option AV} {y : AV} (hp : partE P t q = some y) : q = some y ∧ szOf P t = some (leafs y) ∧ aggT P t = some (isAggA y) := by
  unfold partE at hp
  split at hp
  · rename_i z n b e1 e2
    cases hb : (Nat.beq (leafs z) n && (b == isAggA z)) with
    | false => simp [hb] at hp
    | true =>
      simp only [hb, cond_true, Option.some.injEq] at hp
      subst hp
      rw [Bool.and_eq_true] at hb
      have e3 : leafs z = n := Nat.eq_of_beq_eq_true hb.1
      have e4 : b = isAggA z := by simpa using hb.2
      exact ⟨rfl, by rw [e1, e3], by rw [e2, e4]⟩
  · cases hp

theorem ptr_row (r : Rel F m h w) {id gen i o : Nat} {p : List Nat} {pv : Value} (hp : VRel F m (.ptr id gen i p o) pv) {k : Nat} {els : List AV} {ex : Tag} (hr : h[id]? = some (.row k gen els ex)) :
    ∃ g C e cur, RowR F m w id k gen els ex g C e cur ∧ pv = .pointer (some ⟨g, i * k + o, none⟩) := by
  simp only [VRel] at hp
  obtain ⟨g, C, k1, h1, rfl⟩ := hp
  obtain ⟨g2, C2, e2, cur, xr⟩ := r.row _ _ _ _ _ hr
  have hm := xr.mp
  rw [h1] at hm
  injection hm with hm
  injection hm with hm1 hm2
  injection hm2 with hm2 hm3
  subst hm1; subst hm2; subst hm3
  exact ⟨_, _, _, _, xr, rfl⟩

/-- What stands at a pointer. -/
theorem lookAt_rel (r : Rel F m h w) {p y : AV} {pv : Value} (hp : VRel F m p pv) (hl : lookAt h p = some y) :
    ∃ ad v, pv = .pointer (some ad) ∧ VRel F m y v ∧ isTup v = false ∧ (∀ j c, v.cells.toList[j]? = some c → w.cell? (ad.add j) = some c) := by
  cases p with
  | ptr id gen i pa o =>
    simp only [lookAt] at hl
    split at hl
    · rename_i k g els ex hr
      cases hg : Nat.beq g gen with
      | false => simp [hg] at hl
      | true =>
        simp only [hg, cond_true] at hl
        have : g = gen := Nat.eq_of_beq_eq_true hg
        subst this
        split at hl
        · rename_i x hi
          obtain ⟨g2, C2, e2, cur, xr, rfl⟩ := ptr_row r hp hr
          obtain ⟨v, v1, v2, v3, _⟩ := row_cells xr hi hl
          exact ⟨_, v, rfl, v1, v2, fun j c hj => by rw [add_off]; exact v3 j c hj⟩
        · cases hl
    · cases hl
  | rop x =>
    simp only [lookAt] at hl
    injection hl with hl
    subst hl
    simp only [VRel] at hp
    obtain ⟨ad, v, v1, v2, v3, v4, rfl⟩ := hp
    refine ⟨ad, v, rfl, v1, v2, fun j c hj => ?_⟩
    obtain ⟨cc, e, fz, f1, f2⟩ := v3 j c hj
    rw [add_any v4]
    simp [World.cell?, r.fz _ _ f1, f2]
  | _ => simp [lookAt] at hl

theorem loadE_run (r : Rel F m h w) {t : TypeId} {p y : AV} {pv : Value} (hp : VRel F m p pv) (hl : loadE P h t p = some y) :
    ∃ ad v, pv = .pointer (some ad) ∧ (loadVar t ad).run P w = .ok v w ∧ VRel F m y v ∧ isTup v = false := by
  obtain ⟨h1, h2, h3⟩ := partE_eq hl
  obtain ⟨ad, v, v1, v2, v3, v4⟩ := lookAt_rel r hp h1
  exact ⟨ad, v, v1, run_loadVar_of v2 v3 h2 h3 v4, v2, v3⟩

/-! ### Stores -/
theorem run_storeVar_at {t : TypeId} {g o : Nat} {e : TypeId} {cur : Array Value} {v : Value} (hg : w.heap[g]? = some (.cells cur e (0, 0))) (hs : szOf P t = some v.cells.size)
    (hfit : o + v.cells.size ≤ cur.size) (h1 : ∀ c ∈ v.cells.toList, c.oneCell' = true) :
    (storeVar t ⟨g, o, none⟩ v).run P w = .ok () (w.setRow g (splice cur.toList o v.cells.toList).toArray) := by
  have hst := run_storeCells_at P g o e v.cells.toList 0 cur w hg (by simpa using hfit) h1
  unfold storeVar
  simp only [Sem.run_bind, szOf_run hs, Result.andThen_ok]
  simpa [splice] using hst

theorem take_splice {l z : List Value} {o n : Nat} (h : o + z.length ≤ n) (hn : n ≤ l.length) : (splice l o z).take n = splice (l.take n) o z := by
  unfold splice
  rw [List.take_append, List.take_append]
  simp only [List.length_append, List.length_take]
  rw [Nat.min_eq_left (by omega), List.take_of_length_le (i := n) (l := l.take o) (by simp; omega), List.take_of_length_le (i := n - o) (l := z) (by omega)]
  rw [List.take_take, Nat.min_eq_left (by omega), List.drop_take]
  try (congr 2; omega)

theorem splice_in {A B C z : List Value} {o : Nat} (h : o + z.length ≤ B.length) : splice (A ++ (B ++ C)) (A.length + o) z = splice (A ++ (B ++ C)) A.length (splice B o z) := by
  have e1 : splice (A ++ (B ++ C)) (A.length + o) z = A ++ (splice B o z ++ C) := by
    rw [splice_append_right (by omega), show A.length + o - A.length = o by omega, splice_append_left h]
  have e2 : splice (A ++ (B ++ C)) A.length (splice B o z) = A ++ (splice B o z ++ C) := by
    rw [splice_append_right (Nat.le_refl _), Nat.sub_self]
    congr 1
    have e := splice_length h
    generalize splice B o z = D at e
    unfold splice
    simp only [List.take_zero, List.nil_append, Nat.zero_add]
    rw [e, List.drop_left]
  rw [e1, e2]

/-- A place within an element is a place within the row. -/
theorem splice_elem {L z : List Value} {i k o : Nat} (h1 : i + k ≤ L.length) (h2 : o + z.length ≤ k) : splice L (i + o) z = splice L i (splice ((L.drop i).take k) o z) := by
  have hA : (L.take i).length = i := by simp; omega
  have hB : ((L.drop i).take k).length = k := by simp; omega
  have hL : L = L.take i ++ ((L.drop i).take k ++ (L.drop i).drop k) := by rw [List.take_append_drop, List.take_append_drop]
  have := splice_in (A := L.take i) (B := (L.drop i).take k) (C := (L.drop i).drop k) (z := z) (o := o) (by omega)
  rw [← hL, hA] at this
  exact this

theorem splice_size {cur : Array Value} {z : List Value} {o : Nat} (h : o + z.length ≤ cur.size) : (splice cur.toList o z).toArray.size = cur.size := by
  simp [splice_length (l := cur.toList) (by simpa using h)]

theorem storeE_run (r : Rel F m h w) {t : TypeId} {p x : AV} {pv xv : Value} {h' : Heap} {id : Nat} (hp : VRel F m p pv) (hx : VRel F m x xv) (hl : storeE P h t p x = some (h', id)) :
    ∃ ad w', pv = .pointer (some ad) ∧ (storeVar t ad xv).run P w = .ok () w' ∧ Rel F m h' w' ∧ Same w w' := by
  unfold storeE at hl
  cases p with
  | ptr id0 gen i pa o =>
    cases hs : szOf P t with
    | none => simp [hs] at hl
    | some n =>
      simp only [hs] at hl
      cases hr : h[id0]? with
      | none => simp [hr] at hl
      | some row =>
        cases row with
        | map es c => simp [hr] at hl
        | dead => simp [hr] at hl
        | row k g0 els ex =>
          simp only [hr] at hl
          cases hb : (Nat.beq g0 gen && Nat.beq (leafs x) n && !isTupA x) with
          | false => simp [hb] at hl
          | true =>
            simp only [hb, cond_true] at hl
            rw [Bool.and_eq_true, Bool.and_eq_true] at hb
            have e1 : g0 = gen := Nat.eq_of_beq_eq_true hb.1.1
            have e2 : leafs x = n := Nat.eq_of_beq_eq_true hb.1.2
            have e3 : isTupA x = false := by simpa using hb.2
            subst e1; subst e2
            cases hi : els[i]? with
            | none => simp [hi] at hl
            | some z =>
              simp only [hi] at hl
              cases hput : put z pa o x with
              | none => simp [hput] at hl
              | some z' =>
                simp only [hput, Option.some.injEq, Prod.mk.injEq] at hl
                obtain ⟨rfl, rfl⟩ := hl
                simp only [VRel] at hp
                obtain ⟨g, C, k', h1, rfl⟩ := hp
                obtain ⟨g2, C2, e2, cur, xr⟩ := r.row _ _ _ _ _ hr
                have hm := xr.mp
                rw [h1] at hm
                injection hm with hm
                injection hm with hm1 hm2
                injection hm2 with hm2 hm3
                subst hm1; subst hm2; subst hm3
                have hxt := notTup_of hx e3
                have hil := lt_of_getElem? hi
                have hmul : i * k' + k' ≤ els.length * k' := by have := Nat.mul_le_mul_right k' (show i + 1 ≤ els.length by omega); rwa [Nat.add_mul, Nat.one_mul] at this
                have hC : els.length * k' ≤ C * k' := Nat.mul_le_mul_right _ xr.len
                obtain ⟨u, u1, u2, u3⟩ := CL_get xr.cells xr.all hi
                obtain ⟨v', v1, v2, v3, v4, v5⟩ := put_rel hx hxt z pa o z' hput u u1 u2
                have hz : leafs z = k' := allK_get xr.all hi
                have hxs : xv.cells.toList.length = leafs x := by simp [VRel.size x xv hx hxt]
                have hxs' : xv.cells.size = leafs x := VRel.size x xv hx hxt
                have hcs : cur.size = C * k' := xr.size
                have hfit : i * k' + o + xv.cells.size ≤ cur.size := by rw [hxs', hcs]; omega
                refine ⟨_, _, rfl, run_storeVar_at xr.heap (by rw [hxs']; exact hs) hfit (VRel.one x xv hx hxt), ?_, same_setRow _ _ _⟩
                refine r.setRow hr xr (splice_size (by rw [hxs]; rw [hxs'] at hfit; omega)) (by simpa using xr.len) (by simpa using xr.exact) (allK_set xr.all (by rw [v4, hz])) ?_
                have hset := CL_set xr.cells xr.all hil v1 v2 (by rw [v4, hz])
                have hlen : (els.set i z').length = els.length := by simp
                rw [hlen]
                have goal : (splice cur.toList (i * k' + o) xv.cells.toList).take (els.length * k') = splice (cur.toList.take (els.length * k')) (i * k') v'.cells.toList := by
                  rw [take_splice (by omega) (by simp; omega), v3, u3]
                  have hL : (cur.toList.take (els.length * k')).length = els.length * k' := by simp; omega
                  exact splice_elem (by omega) (by omega)
                show CL F m (els.set i z') (List.take (els.length * k') (splice cur.toList (i * k' + o) xv.cells.toList).toArray.toList)
                rw [List.toList_toArray, goal]
                exact hset
  | _ => simp at hl

end Go.AM

set_option linter.unusedVariables false
set_option linter.unusedSimpArgs false
namespace Go.AM
open Go

/-- Each zero value of the table is the program's. -/
def Env.ZerosOK (E : Env) : Prop := ∀ t z, E.zero t = some z → ∃ i v, E.P.info? t = some i ∧ i.zero = some v ∧ toV z = some v

variable {F : Fz} {m : Mp} {fr : FR} {a : Act} {h : Heap} {w : World} {P : Program}

/-- What one operation owes. -/
def Good (P : Program) (F : Fz) (m : Mp) (w : World) (y : AV) (h' : Heap) (s : Sem Next) : Prop :=
  ∃ v n w' F' m', s.run P w = .ok n w' ∧ (n = .value v ∨ (n = .skip ∧ v = undef)) ∧ Ext F m F' m' ∧ VRel F' m' y v ∧ Rel F' m' h' w' ∧ Same w w'

theorem Good.val {y : AV} {s : Sem Value} {v : Value} (r : Rel F m h w) (hr : s.run P w = .ok v w) (hv : VRel F m y v) : Good P F m w y h (do pure (.value (← s))) :=
  ⟨v, .value v, w, F, m, by simp [hr], .inl rfl, Ext.refl _ _, hv, r, Same.refl _⟩

theorem Good.new {y : AV} {s : Sem Value} {v : Value} {w' : World} {m' : Mp} {h' : Heap} (hr : s.run P w = .ok v w') (he : Ext F m F m') (hv : VRel F m' y v) (r : Rel F m' h' w') (hs : Same w w') :
    Good P F m w y h' (do pure (.value (← s))) :=
  ⟨v, .value v, w', F, m', by simp [hr], .inl rfl, he, hv, r, hs⟩

theorem one_eq {x : Option AV} {y : AV} {h' : Heap} {s : Option (Nat × Bool)}
    (ho : (match x with | some y => some (y, h, none) | none => none : Option (AV × Heap × Option (Nat × Bool))) = some (y, h', s)) : x = some y ∧ h' = h ∧ s = none := by
  cases x with
  | none => simp at ho
  | some z =>
    simp only [Option.some.injEq, Prod.mk.injEq] at ho
    exact ⟨by rw [ho.1], ho.2.1.symm, ho.2.2.symm⟩

/-! ### Zero values, new rows -/
theorem zero_run {E : Env} (hE : E.ZerosOK) {t : TypeId} {z : AV} (hz : E.zero t = some z) (w : World) : ∃ v, (zeroValue t).run E.P w = .ok v w ∧ VRel F m z v ∧ isTup v = false ∧ v.cells.size = leafs z := by
  obtain ⟨i, v, h1, h2, h3⟩ := hE t z hz
  obtain ⟨g1, g2⟩ := toV_self (F := F) (m := m) z v h3
  exact ⟨v, by simp [zeroValue, typeInfo, h1, h2], g1, g2, VRel.size z v g1 g2⟩

theorem newVar_good (r : Rel F m h w) {y : AV} {v : Value} (hv : VRel F m y v) (ht : isTup v = false) (hk : 1 ≤ leafs y) (e : TypeId) :
    ∃ m', (newVar e v).run P w = .ok ⟨w.heap.size, 0, none⟩ (w.alloc (.cells v.cells e)) ∧ Ext F m F m' ∧ VRel F m' (.ptr h.length 0 0 [] 0) (.pointer (some ⟨w.heap.size, 0, none⟩)) ∧
      Rel F m' (newRow h (leafs y) [y] ⟨true, e⟩) (w.alloc (.cells v.cells e)) := by
  have hs := VRel.size y v hv ht
  obtain ⟨r', he⟩ := r.newRow (k := leafs y) (C := 1) (els := [y]) (ex := ⟨true, e⟩) (cells := v.cells) (by omega) (by omega) (by simp) (by simp) (by simp [maxLen]) (by simp [allK])
    (by simp only [List.length_singleton, Nat.one_mul]; rw [List.take_of_length_le (by simp; omega)]; simp only [CL]; exact ⟨v, [], hv, ht, rfl, by simp⟩)
  refine ⟨_, by simp [newVar, Go.newRow], he, ?_, r'⟩
  simp only [VRel]
  exact ⟨w.heap.size, 1, leafs y, Mp.add_same, by simp⟩

/-! ### Structs and rows laid out of parts -/
theorem fold_set (off : Nat) : ∀ (zs : List Value) (n : Nat) (cs : Array Value), off + n + zs.length ≤ cs.size →
    (zs.zipIdx n).foldl (fun (cs : Array Value) (q : Value × Nat) => cs.setIfInBounds (off + q.2) q.1) cs = (splice cs.toList (off + n) zs).toArray
  | [], n, cs, hl => by simp [splice]
  | z :: zs, n, cs, hl => by
    simp only [List.zipIdx_cons, List.foldl_cons]
    rw [fold_set off zs (n + 1) _ (by simp at hl ⊢; omega)]
    congr 1
    have := list_seg_step cs.toList (off + n) z zs (by simp at hl ⊢; omega)
    unfold splice
    simp only [Array.toList_setIfInBounds, List.length_cons]
    rw [show off + (n + 1) = off + n + 1 by omega]
    exact this

theorem fill_run {place : Nat → Option (Nat × Nat)} : ∀ {qs : List (Nat × AV)} {z z' : List AV} {cs : List Value} {vs : List (Nat × Value)}, setParts place z qs = some z' → CL F m z cs → PL F m qs vs →
    ∃ cs', Instr.fill place cs.toArray vs = some cs'.toArray ∧ CL F m z' cs'
  | [], z, z', cs, vs, hs, hc, hp => by
    simp only [PL] at hp
    simp only [setParts, Option.some.injEq] at hs
    subst hs; subst hp
    exact ⟨cs, by simp [Instr.fill], hc⟩
  | (i, y) :: qs, z, z', cs, vs, hs, hc, hp => by
    simp only [PL] at hp
    obtain ⟨v, r, h1, h2, rfl⟩ := hp
    simp only [setParts] at hs
    cases hpl : place i with
    | none => simp [hpl] at hs
    | some q =>
      obtain ⟨off, sz⟩ := q
      simp only [hpl] at hs
      cases hb : (Nat.beq (leafs y) sz && !isTupA y) with
      | false => simp [hb] at hs
      | true =>
        simp only [hb, cond_true] at hs
        rw [Bool.and_eq_true] at hb
        have e1 : leafs y = sz := Nat.eq_of_beq_eq_true hb.1
        have e2 : isTupA y = false := by simpa using hb.2
        subst e1
        have hvt := notTup_of h1 e2
        have hvs := VRel.size y v h1 hvt
        cases hput : putL z i [] off y with
        | none => simp [hput] at hs
        | some z1 =>
          simp only [hput] at hs
          obtain ⟨cs1, g1, g2, g3, g4⟩ := putL_rel h1 hvt z i [] off z1 hput cs hc
          have hcl := CL.size _ _ hc
          obtain ⟨cs2, k1, k2⟩ := fill_run hs g1 h2
          refine ⟨cs2, ?_, k2⟩
          simp only [Instr.fill, hpl]
          rw [if_neg (by simp [hvs]; omega)]
          have hf : v.cells.zipIdx.foldl (fun (cs : Array Value) (q : Value × Nat) => cs.setIfInBounds (off + q.2) q.1) cs.toArray = cs1.toArray := by
            rw [← Array.foldl_toList, Array.toList_zipIdx]
            have := fold_set off v.cells.toList 0 cs.toArray (by simp [hvs]; omega)
            simp only [Nat.add_zero] at this
            rw [this, g2]
          have hf' : v.cells.zipIdx.foldl (fun (cs : Array Value) (x : Value × Nat) => match x with | (c, j) => cs.setIfInBounds (off + j) c) cs.toArray = cs1.toArray := hf
          rw [hf']
          exact k1

theorem places_run : ∀ {fs : List Field} {pl : List (Nat × Nat)}, placesE P fs = some pl → ∀ (w : World),
    (fs.mapM (m := Sem) fun f => do pure (f.offset, ← sizeOf f.type)).run P w = .ok pl w
  | [], pl, hp, w => by simp [placesE] at hp; simp [hp]
  | f :: fs, pl, hp, w => by
    simp only [placesE] at hp
    cases hs : szOf P f.type with
    | none => simp [hs] at hp
    | some n =>
      cases hl : placesE P fs with
      | none => simp [hs, hl] at hp
      | some l =>
        simp only [hs, hl, Option.some.injEq] at hp
        subst hp
        simp [-bind_pure_comp, szOf_run hs, places_run hl w]

theorem mapM_array {α β : Type} (as : Array α) (f : α → Sem β) (l : List β) (w : World) (hr : (as.toList.mapM f).run P w = .ok l w) : (as.mapM f).run P w = .ok l.toArray w := by
  rw [Array.mapM_eq_mapM_toList]
  simp [hr]

theorem build_run {E : Env} (hE : E.ZerosOK) {t : TypeId} {qs : List (Nat × AV)} {ps : Array (Nat × Value)} {y : AV} (hb : buildE E t qs = some y) (hp : PL F m qs ps.toList) (w : World) :
    ∃ v, (Instr.build t ps).run E.P w = .ok v w ∧ VRel F m y v := by
  unfold buildE at hb
  split at hb
  · rename_i fs z hu hz
    cases hpl : placesE E.P fs.toList with
    | none => simp [hpl] at hb
    | some pl =>
      simp only [hpl] at hb
      cases hsp : setParts (fun i => pl[i]?) z qs with
      | none => simp [hsp] at hb
      | some l =>
        simp only [hsp, Option.some.injEq] at hb
        subst hb
        obtain ⟨v, v1, v2, v3, v4⟩ := zero_run (F := F) (m := m) hE hz w
        obtain ⟨v5, v6⟩ := v2.ofAgg
        obtain ⟨cs', f1, f2⟩ := fill_run hsp v6 hp
        refine ⟨.agg cs'.toArray, ?_, by simp only [VRel]; exact ⟨cs', f2, rfl⟩⟩
        have hm := mapM_array (P := E.P) fs (fun f => do pure (f.offset, ← sizeOf f.type)) pl w (places_run hpl w)
        have hf : Instr.fill (fun i : Nat => pl[i]?) v.cells ps.toList = some cs'.toArray := by simpa using f1
        simp [-bind_pure_comp, Instr.build, v1, run_underlying hu, hm, hf]
  · rename_i n e z hu hz
    cases hsz : szOf E.P e with
    | none => simp [hsz] at hb
    | some k =>
      simp only [hsz] at hb
      cases hsp : setParts (fun i => some (i * k, k)) z qs with
      | none => simp [hsp] at hb
      | some l =>
        simp only [hsp, Option.some.injEq] at hb
        subst hb
        obtain ⟨v, v1, v2, v3, v4⟩ := zero_run (F := F) (m := m) hE hz w
        obtain ⟨v5, v6⟩ := v2.ofAgg
        obtain ⟨cs', f1, f2⟩ := fill_run hsp v6 hp
        refine ⟨.agg cs'.toArray, ?_, by simp only [VRel]; exact ⟨cs', f2, rfl⟩⟩
        have hf : Instr.fill (fun i => some (i * k, k)) v.cells ps.toList = some cs'.toArray := by simpa using f1
        simp [Instr.build, v1, run_underlying hu, szOf_run hsz, hf]
  · cases hb

theorem CL_replicate {z : AV} {v : Value} (hv : VRel F m z v) (ht : isTup v = false) : ∀ n : Nat, CL F m (List.replicate n z) (List.replicate n v.cells.toList).flatten
  | 0 => by simp [CL]
  | n + 1 => by
    simp only [List.replicate_succ, CL, List.flatten_cons]
    exact ⟨v, _, hv, ht, CL_replicate hv ht n, rfl⟩

theorem range_mod (zs : Array Value) (k : Nat) (hk : zs.size = k) (h0 : 0 < k) : ∀ n : Nat, ((Array.range (n * k)).map (zs[· % zs.size]!)).toList = (List.replicate n zs.toList).flatten := by
  intro n
  induction n with
  | zero => simp
  | succ n ih =>
    rw [List.replicate_succ', List.flatten_append]
    simp only [List.flatten_cons, List.flatten_nil, List.append_nil]
    rw [← ih, Nat.add_mul, Nat.one_mul]
    simp only [Array.toList_map, Array.toList_range, List.range_add, List.map_append, List.map_map]
    congr 1
    apply List.ext_getElem
    · simp [hk]
    · intro i h1 h2
      have hi : i < k := by simpa using h1
      have : (n * k + i) % k = i := by rw [Nat.add_comm, Nat.add_mul_mod_self_right, Nat.mod_eq_of_lt hi]
      simp [hk, this, getElem!_pos zs i (by omega)]

/-! ### Held against nil -/
theorem equal_nil {t : TypeId} {d : TypeDesc} {xv yv : Value} {b : Bool} (hu : P.underlying t = some d)
    (hc : (∃ e ad, d = .pointer e ∧ xv = .pointer (some ad) ∧ yv = .pointer none ∧ b = false) ∨ (∃ e ad, d = .pointer e ∧ xv = .pointer none ∧ yv = .pointer (some ad) ∧ b = false) ∨
      (∃ e ad n c, d = .slice e ∧ xv = .slice (some ad) n c ∧ yv = .slice none 0 0 ∧ b = false) ∨
      (∃ k e g, d = .map k e ∧ xv = .map (some g) ∧ yv = .map none ∧ b = false) ∨ (∃ k e g, d = .map k e ∧ xv = .map none ∧ yv = .map (some g) ∧ b = false) ∨
      (∃ p q r f xs ys, d = .func p q r ∧ xv = .func f xs ys ∧ yv = .nilFunc ∧ b = false)) (w : World) :
    (Op.equal t xv yv).run P w = .ok b w := by
  have hd : (underlying t).run P w = .ok d w := run_underlying hu w
  show (Op.equalIn (9999 + 1) t xv yv).run P w = .ok b w
  rcases hc with ⟨e, ad, rfl, rfl, rfl, rfl⟩ | ⟨e, ad, rfl, rfl, rfl, rfl⟩ | ⟨e, ad, n, c, rfl, rfl, rfl, rfl⟩ | ⟨k, e, g, rfl, rfl, rfl, rfl⟩ | ⟨k, e, g, rfl, rfl, rfl, rfl⟩ | ⟨p, q, s, f, xs, ys, rfl, rfl, rfl, rfl⟩ <;>
    (unfold Op.equalIn; rw [Sem.run_bind, hd]; rfl)

theorem nilEq_run {t : TypeId} {d : TypeDesc} {x y : AV} {b : Bool} {xv yv : Value} (hu : P.underlying t = some d) (hn : nilEq d x y = some b) (hx : VRel F m x xv) (hy : VRel F m y yv) (ox oy : Operand) (w : World) :
    (eqGuard .eql t ox oy xv yv).run P w = .ok () w ∧ (eqGuard .neq t ox oy xv yv).run P w = .ok () w ∧ (binOp .eql t xv yv).run P w = .ok (.bool b) w ∧ (binOp .neq t xv yv).run P w = .ok (.bool !b) w := by
  have key : (∃ e ad, d = .pointer e ∧ xv = .pointer (some ad) ∧ yv = .pointer none ∧ b = false) ∨ (∃ e ad, d = .pointer e ∧ xv = .pointer none ∧ yv = .pointer (some ad) ∧ b = false) ∨
      (∃ e ad n c, d = .slice e ∧ xv = .slice (some ad) n c ∧ yv = .slice none 0 0 ∧ b = false) ∨
      (∃ k e g, d = .map k e ∧ xv = .map (some g) ∧ yv = .map none ∧ b = false) ∨ (∃ k e g, d = .map k e ∧ xv = .map none ∧ yv = .map (some g) ∧ b = false) ∨
      (∃ p q r f xs ys, d = .func p q r ∧ xv = .func f xs ys ∧ yv = .nilFunc ∧ b = false) := by
    unfold nilEq at hn
    split at hn <;> first
      | (cases hn; done)
      | skip
    all_goals
      injection hn with hn
      subst hn
      simp only [VRel] at hx hy
    · obtain ⟨g, C, k, _, rfl⟩ := hx; obtain ⟨_, rfl⟩ := hy; exact .inl ⟨_, _, rfl, rfl, rfl, rfl⟩
    · obtain ⟨ad, z, _, _, _, _, rfl⟩ := hx; obtain ⟨_, rfl⟩ := hy; exact .inl ⟨_, _, rfl, rfl, rfl, rfl⟩
    · obtain ⟨g, C, k, _, rfl⟩ := hy; obtain ⟨_, rfl⟩ := hx; exact .inr (.inl ⟨_, _, rfl, rfl, rfl, rfl⟩)
    · obtain ⟨ad, z, _, _, _, _, rfl⟩ := hy; obtain ⟨_, rfl⟩ := hx; exact .inr (.inl ⟨_, _, rfl, rfl, rfl, rfl⟩)
    · obtain ⟨g, C, k, ad, _, _, _, _, _, rfl⟩ := hx; obtain ⟨_, rfl⟩ := hy; exact .inr (.inr (.inl ⟨_, _, _, _, rfl, rfl, rfl, rfl⟩))
    · obtain ⟨ad, cap, cs, _, _, _, _, _, _, rfl⟩ := hx; obtain ⟨_, rfl⟩ := hy; exact .inr (.inr (.inl ⟨_, _, _, _, rfl, rfl, rfl, rfl⟩))
    · obtain ⟨g, C, k, ad, _, _, _, _, _, rfl⟩ := hx; obtain ⟨_, rfl⟩ := hy; exact .inr (.inr (.inl ⟨_, _, _, _, rfl, rfl, rfl, rfl⟩))
    · obtain ⟨g, _, rfl⟩ := hx; obtain ⟨_, rfl⟩ := hy; exact .inr (.inr (.inr (.inl ⟨_, _, _, rfl, rfl, rfl, rfl⟩)))
    · obtain ⟨g, _, rfl⟩ := hy; obtain ⟨_, rfl⟩ := hx; exact .inr (.inr (.inr (.inr (.inl ⟨_, _, _, rfl, rfl, rfl, rfl⟩))))
    · obtain ⟨xs, ys, _, _, rfl⟩ := hx; obtain ⟨_, rfl⟩ := hy; exact .inr (.inr (.inr (.inr (.inr ⟨_, _, _, _, _, _, rfl, rfl, rfl, rfl⟩))))
  have e := equal_nil hu key w
  have e1 : (binOp .eql t xv yv) = (do pure (.bool (← Op.equal t xv yv)) : Sem Value) := by
    rcases key with ⟨e, ad, rfl, rfl, rfl, rfl⟩ | ⟨e, ad, rfl, rfl, rfl, rfl⟩ | ⟨e, ad, n, c, rfl, rfl, rfl, rfl⟩ | ⟨k, e, g, rfl, rfl, rfl, rfl⟩ | ⟨k, e, g, rfl, rfl, rfl, rfl⟩ | ⟨p, q, s, f, xs, ys, rfl, rfl, rfl, rfl⟩ <;> rfl
  have e2 : (binOp .neq t xv yv) = (do pure (.bool (!(← Op.equal t xv yv))) : Sem Value) := by
    rcases key with ⟨e, ad, rfl, rfl, rfl, rfl⟩ | ⟨e, ad, rfl, rfl, rfl, rfl⟩ | ⟨e, ad, n, c, rfl, rfl, rfl, rfl⟩ | ⟨k, e, g, rfl, rfl, rfl, rfl⟩ | ⟨k, e, g, rfl, rfl, rfl, rfl⟩ | ⟨p, q, s, f, xs, ys, rfl, rfl, rfl, rfl⟩ <;> rfl
  have g1 : eqGuard .eql t ox oy xv yv = pure () := by
    rcases key with ⟨e, ad, rfl, rfl, rfl, rfl⟩ | ⟨e, ad, rfl, rfl, rfl, rfl⟩ | ⟨e, ad, n, c, rfl, rfl, rfl, rfl⟩ | ⟨k, e, g, rfl, rfl, rfl, rfl⟩ | ⟨k, e, g, rfl, rfl, rfl, rfl⟩ | ⟨p, q, s, f, xs, ys, rfl, rfl, rfl, rfl⟩ <;> rfl
  have g2 : eqGuard .neq t ox oy xv yv = pure () := by
    rcases key with ⟨e, ad, rfl, rfl, rfl, rfl⟩ | ⟨e, ad, rfl, rfl, rfl, rfl⟩ | ⟨e, ad, n, c, rfl, rfl, rfl, rfl⟩ | ⟨k, e, g, rfl, rfl, rfl, rfl⟩ | ⟨k, e, g, rfl, rfl, rfl, rfl⟩ | ⟨p, q, s, f, xs, ys, rfl, rfl, rfl, rfl⟩ <;> rfl
  exact ⟨by rw [g1]; rfl, by rw [g2]; rfl, by rw [e1]; simp [-bind_pure_comp, e], by rw [e2]; simp [-bind_pure_comp, e]⟩

theorem ptrSame_run {t : TypeId} {d : TypeDesc} {x y : AV} {xv yv : Value} (hu : P.underlying t = some d) (hn : ptrSame P d x y = true) (hx : VRel F m x xv) (hy : VRel F m y yv) (ox oy : Operand) (w : World) :
    (eqGuard .eql t ox oy xv yv).run P w = .ok () w ∧ (eqGuard .neq t ox oy xv yv).run P w = .ok () w ∧ (binOp .eql t xv yv).run P w = .ok (.bool true) w ∧ (binOp .neq t xv yv).run P w = .ok (.bool false) w := by
  unfold ptrSame at hn
  split at hn
  · rename_i e id gen i p o id' gen' i' p' o'
    simp only [Bool.and_eq_true] at hn
    obtain ⟨⟨⟨⟨h0, h1⟩, h2⟩, h3⟩, h4⟩ := hn
    have e1 := Nat.eq_of_beq_eq_true h1
    have e2 := Nat.eq_of_beq_eq_true h2
    have e3 := Nat.eq_of_beq_eq_true h3
    have e4 := Nat.eq_of_beq_eq_true h4
    subst e1; subst e2; subst e3; subst e4
    simp only [VRel] at hx hy
    obtain ⟨g, C, k, g1, rfl⟩ := hx
    obtain ⟨g', C', k', g2, rfl⟩ := hy
    rw [g1] at g2
    injection g2 with g2
    injection g2 with q1 q2
    injection q2 with q2 q3
    subst q1; subst q3
    cases hs : szOf P e with
    | none => simp [hs] at h0
    | some n =>
      simp only [hs] at h0
      have hn0 : n ≠ 0 := by have := Nat.le_of_ble_eq_true h0; omega
      have hd : (underlying t).run P w = .ok (.pointer e) w := run_underlying hu w
      have he : (Op.equal t (.pointer (some ⟨g, i * k + o, none⟩)) (.pointer (some ⟨g, i * k + o, none⟩))).run P w = .ok true w := by
        show (Op.equalIn (9999 + 1) t _ _).run P w = .ok true w
        unfold Op.equalIn
        rw [Sem.run_bind, hd]
        simp [-bind_pure_comp, szOf_run hs, hn0, sameAddr]
      refine ⟨rfl, rfl, ?_, ?_⟩
      · have : binOp .eql t (.pointer (some ⟨g, i * k + o, none⟩)) (.pointer (some ⟨g, i * k + o, none⟩)) = (do pure (.bool (← Op.equal t (.pointer (some ⟨g, i * k + o, none⟩)) (.pointer (some ⟨g, i * k + o, none⟩)))) : Sem Value) := rfl
        rw [this]
        simp [-bind_pure_comp, he]
      · have : binOp .neq t (.pointer (some ⟨g, i * k + o, none⟩)) (.pointer (some ⟨g, i * k + o, none⟩)) = (do pure (.bool (!(← Op.equal t (.pointer (some ⟨g, i * k + o, none⟩)) (.pointer (some ⟨g, i * k + o, none⟩))))) : Sem Value) := rfl
        rw [this]
        simp [-bind_pure_comp, he]
  · cases hn

end Go.AM

set_option linter.unusedVariables false
set_option linter.unusedSimpArgs false
namespace Go.AM
open Go

variable {F : Fz} {m : Mp} {fr : FR} {a : Act} {h : Heap} {w : World} {P : Program}

theorem FC.sub {ad : Addr} {cs ds : List Value} {o : Nat} (hc : FC F ad cs) (hs : ad.spot = none) (hd : ∀ j c, ds[j]? = some c → cs[o + j]? = some c) : FC F (ad.add o) ds := fun j v hj => by
  obtain ⟨c, e, fz, h1, h2⟩ := hc _ v (hd j v hj)
  rw [add_any hs]
  exact ⟨c, e, fz, h1, by simpa [Nat.add_assoc] using h2⟩

theorem spot_add {ad : Addr} (hs : ad.spot = none) (o : Nat) : (ad.add o).spot = none := by rw [add_any hs]

theorem drop_take_get {cs : List Value} {o n j : Nat} {c : Value} (hj : ((cs.drop o).take n)[j]? = some c) : cs[o + j]? = some c := by
  simp only [List.getElem?_take, List.getElem?_drop] at hj
  split at hj
  · exact hj
  · cases hj

theorem fieldOf_eq {t : TypeId} {f off n : Nat} (ho : fieldOf P t f = some (off, n)) : ∃ fs d, P.underlying t = some (.struct fs) ∧ fs[f]? = some d ∧ d.offset = off ∧ szOf P d.type = some n := by
  unfold fieldOf at ho
  split at ho
  · rename_i fs hu
    split at ho
    · rename_i d hd
      split at ho
      · rename_i n' hn
        simp only [Option.some.injEq, Prod.mk.injEq] at ho
        obtain ⟨rfl, rfl⟩ := ho
        exact ⟨fs, d, hu, hd, rfl, hn⟩
      · cases ho
    · cases ho
  · cases ho

theorem fieldAddr_run {t : TypeId} {p y : AV} {f : Nat} {pv : Value} (hp : VRel F m p pv) (ho : fieldAddrE P t p f = some y) : ∃ v, (Instr.fieldAt t pv f).run P w = .ok v w ∧ VRel F m y v := by
  unfold fieldAddrE at ho
  split at ho
  · rename_i off n hf
    cases hn : Nat.beq n 0 with
    | true => simp [hn] at ho
    | false =>
      simp only [hn, cond_false] at ho
      obtain ⟨fs, d, h1, h2, h3, h4⟩ := fieldOf_eq hf
      have hn0 : n ≠ 0 := fun e => by subst e; simp at hn
      have run : ∀ ad : Addr, (Instr.fieldAt t (.pointer (some ad)) f).run P w = .ok (.pointer (some (ad.add off))) w := by
        intro ad
        simp [-bind_pure_comp, Instr.fieldAt, run_underlying h1, h2, Instr.sureAddr, fieldPlace, szOf_run h4, hn0, h3]
      split at ho
      · rename_i id gen i p' o
        injection ho with ho
        subst ho
        simp only [VRel] at hp
        obtain ⟨g, C, k, g1, rfl⟩ := hp
        refine ⟨_, run _, ?_⟩
        simp only [VRel]
        exact ⟨g, C, k, g1, by rw [add_off, Nat.add_assoc]⟩
      · rename_i l
        split at ho
        · rename_i y' hnav
          injection ho with ho
          subst ho
          simp only [VRel] at hp
          obtain ⟨ad, z, ⟨cs, g1, rfl⟩, g2, g3, g4, rfl⟩ := hp
          obtain ⟨z', k1, k2, k3, k4⟩ := navL_rel l f [] off y' hnav cs g1
          refine ⟨_, run _, ?_⟩
          simp only [VRel]
          refine ⟨_, z', k1, k2, FC.sub g3 g4 (fun j c hj => ?_), spot_add g4 _, rfl⟩
          rw [k3] at hj
          simpa [Value.cells] using drop_take_get hj
        · cases ho
      · cases ho
  · cases ho

theorem part_run {t : TypeId} {l : List AV} {f : Nat} {p : List Nat} {off : Nat} {y : AV} {cs : List Value} (hc : CL F m l cs) (hn : partE P t (navL l f p off) = some y) :
    ∃ z, (part t cs.toArray off).run P w = .ok z w ∧ VRel F m y z := by
  obtain ⟨h1, h2, h3⟩ := partE_eq hn
  obtain ⟨z, k1, k2, k3, k4⟩ := navL_rel l f p off y h1 cs hc
  refine ⟨z, ?_, k1⟩
  unfold part
  simp only [Sem.run_bind, aggT_run h3, Result.andThen_ok]
  have hz := VRel.size y z k1 k2
  have hcl := CL.size _ _ hc
  cases hg : isAggA y with
  | true =>
    simp only [if_true, Sem.run_bind, szOf_run h2, Result.andThen_ok, Sem.run_pure]
    cases y <;> simp [isAggA] at hg
    obtain ⟨g1, _⟩ := k1.ofAgg
    rw [g1]
    congr 2
    apply Array.toList_inj.1
    rw [k3]
    simp [Array.toList_extract, List.extract]
  | false =>
    have g1 := k1.scalar k2 hg
    rw [g1] at k3
    have hl : leafs y = 1 := by rw [← hz, g1]; rfl
    have h0 : cs[off]? = some z := by
      have := drop_take_get (cs := cs) (o := off) (n := leafs y) (j := 0) (c := z) (by rw [← k3]; simp)
      simpa using this
    simp [h0]

theorem field_run {t : TypeId} {x y : AV} {f : Nat} {xv : Value} (hx : VRel F m x xv) (ho : fieldE P t x f = some y) : ∃ v, (Instr.field t xv f).run P w = .ok v w ∧ VRel F m y v := by
  unfold fieldE at ho
  split at ho
  · rename_i l fs hu
    split at ho
    · rename_i d hd
      simp only [VRel] at hx
      obtain ⟨cs, h1, rfl⟩ := hx
      obtain ⟨z, z1, z2⟩ := part_run (w := w) h1 ho
      exact ⟨z, by simp [Instr.field, run_underlying hu, hd, asAgg, z1], z2⟩
    · cases ho
  · cases ho

theorem idx_eq {ix : AV} {len j : Nat} {iv : Value} (hi : idx ix len = some j) (hv : VRel F m ix iv) : ∃ k n, iv = .int k n ∧ 0 ≤ n ∧ n < (len : Int) ∧ n.toNat = j := by
  unfold idx at hi
  split at hi
  · rename_i k n
    cases hb : (decide (0 ≤ n) && decide (n < (len : Int))) with
    | false => simp [hb] at hi
    | true =>
      simp only [hb, cond_true, Option.some.injEq] at hi
      rw [Bool.and_eq_true, decide_eq_true_eq, decide_eq_true_eq] at hb
      simp only [VRel] at hv
      exact ⟨k, n, hv.2, hb.1, hb.2, hi⟩
  · cases hi

/-! ### Slices read -/
structure Els (F : Fz) (m : Mp) (w : World) (k : Nat) (l : List AV) (v : Value) (ad : Addr) (cap : Nat) (cs : List Value) : Prop where
  val : v = .slice (some ad) l.length cap
  spot : ad.spot = none
  cells : CL F m l cs
  all : allK k l = true
  mem : ∀ j c, cs[j]? = some c → w.cell? (ad.add j) = some c
  cap : l.length ≤ cap

theorem sl_row (r : Rel F m h w) {id gen off len : Nat} {v : Value} (hv : VRel F m (.sl id gen off len) v) {k : Nat} {els : List AV} {ex : Tag} (hr : h[id]? = some (.row k gen els ex)) :
    ∃ g C e cur ad, RowR F m w id k gen els ex g C e cur ∧ off + len ≤ C ∧ ad.block = g ∧ ad.spot = none ∧ (off < C → ad.off = off * k) ∧ v = .slice (some ad) len (C - off) := by
  simp only [VRel] at hv
  obtain ⟨g, C, k1, ad, h1, h2, h3, h4, h5, rfl⟩ := hv
  obtain ⟨g2, C2, e2, cur, xr⟩ := r.row _ _ _ _ _ hr
  have hm := xr.mp
  rw [h1] at hm
  injection hm with hm
  injection hm with hm1 hm2
  injection hm2 with hm2 hm3
  subst hm1; subst hm2; subst hm3
  exact ⟨_, _, _, _, ad, xr, h2, h3, h4, h5, rfl⟩

theorem isl_row (r : Rel F m h w) {id gen i o k off len n : Nat} {p : List Nat} {v : Value} (hv : VRel F m (.isl id gen i p o k off len n) v) {K : Nat} {els : List AV} {ex : Tag} (hr : h[id]? = some (.row K gen els ex)) :
    ∃ g C e cur ad, RowR F m w id K gen els ex g C e cur ∧ off + len ≤ n ∧ ad.block = g ∧ ad.spot = none ∧ (off < n → ad.off = i * K + o + off * k) ∧ v = .slice (some ad) len (n - off) := by
  simp only [VRel] at hv
  obtain ⟨g, C, k1, ad, h1, h2, h3, h4, h5, rfl⟩ := hv
  obtain ⟨g2, C2, e2, cur, xr⟩ := r.row _ _ _ _ _ hr
  have hm := xr.mp
  rw [h1] at hm
  injection hm with hm
  injection hm with hm1 hm2
  injection hm2 with hm2 hm3
  subst hm1; subst hm2; subst hm3
  exact ⟨_, _, _, _, ad, xr, h2, h3, h4, h5, rfl⟩

theorem elsOf_rel (r : Rel F m h w) {x : AV} {v : Value} {k : Nat} {l : List AV} (he : elsOf h x = some (k, l)) (hv : VRel F m x v) : ∃ ad cap cs, Els F m w k l v ad cap cs := by
  cases x with
  | lit k' full l' =>
    simp only [elsOf, Option.some.injEq, Prod.mk.injEq] at he
    obtain ⟨rfl, rfl⟩ := he
    simp only [VRel] at hv
    obtain ⟨ad, cap, cs, h1, h2, h3, h4, h5, h6, rfl⟩ := hv
    refine ⟨ad, cap, cs, rfl, h4, h1, h2, fun j c hj => ?_, h5⟩
    obtain ⟨c', e, fz, f1, f2⟩ := h3 j c hj
    rw [add_any h4]
    simp [World.cell?, r.fz _ _ f1, f2]
  | sl id gen off len =>
    simp only [elsOf] at he
    split at he
    · rename_i k' g els ex hr
      cases hb : (Nat.beq g gen && Nat.ble (off + len) els.length) with
      | false => simp [hb] at he
      | true =>
        simp only [hb, cond_true, Option.some.injEq, Prod.mk.injEq] at he
        obtain ⟨rfl, rfl⟩ := he
        rw [Bool.and_eq_true] at hb
        have e1 : g = gen := Nat.eq_of_beq_eq_true hb.1
        have e2 : off + len ≤ els.length := Nat.le_of_ble_eq_true hb.2
        subst e1
        obtain ⟨gb, C, e, cur, ad, xr, h1, h2, h3, h4, rfl⟩ := sl_row r hv hr
        have hl : ((els.drop off).take len).length = len := by simp; omega
        refine ⟨ad, C - off, _, by rw [hl], h3, CL_take (CL_drop xr.cells xr.all off) (allK_drop off xr.all) len, allK_take len (allK_drop off xr.all), fun j c hj => ?_, by rw [hl]; omega⟩
        have hj' := lt_of_getElem? hj
        have hpos : 0 < len * k' := by
          have : ((cur.toList.take (els.length * k')).drop (off * k')).take (len * k') ≠ [] := fun e0 => by rw [e0] at hj; simp at hj
          rcases Nat.eq_zero_or_pos (len * k') with h0 | h0
          · rw [h0] at this; simp at this
          · exact h0
        have hlen : 0 < len := Nat.pos_of_mul_pos_right hpos
        have hoff := h4 (by omega)
        have hc := drop_take_get hj
        simp only [List.getElem?_take] at hc
        split at hc
        · rw [add_any h3, h2, hoff]
          simp only [World.cell?, xr.heap]
          simpa using hc
        · cases hc
    · cases he
  | isl id gen i p o k' off len n =>
    simp only [elsOf] at he
    split at he
    · rename_i K g els ex hr
      cases hg : Nat.beq g gen with
      | false => simp [hg] at he
      | true =>
        simp only [hg, cond_true] at he
        have e1 : g = gen := Nat.eq_of_beq_eq_true hg
        subst e1
        split at he
        · rename_i z hi
          split at he
          · rename_i l' hn
            cases hb : (Nat.beq l'.length n && allK k' l' && Nat.ble (off + len) n) with
            | false => simp [hb] at he
            | true =>
              simp only [hb, cond_true, Option.some.injEq, Prod.mk.injEq] at he
              obtain ⟨rfl, rfl⟩ := he
              rw [Bool.and_eq_true, Bool.and_eq_true] at hb
              have e1 : l'.length = n := Nat.eq_of_beq_eq_true hb.1.1
              have e2 : allK k' l' = true := hb.1.2
              have e3 : off + len ≤ n := Nat.le_of_ble_eq_true hb.2
              obtain ⟨gb, C, e, cur, ad, xr, h1, h2, h3, h4, rfl⟩ := isl_row r hv hr
              obtain ⟨v, v1, v2, v3, v4, v5⟩ := row_cells xr hi hn
              obtain ⟨v6, v7⟩ := v1.ofAgg
              have hl : ((l'.drop off).take len).length = len := by simp; omega
              refine ⟨ad, n - off, _, by rw [hl], h3, CL_take (CL_drop v7 e2 off) (allK_drop off e2) len, allK_take len (allK_drop off e2), fun j c hj => ?_, by rw [hl]; omega⟩
              have hpos : 0 < len * k' := by
                have : (v.cells.toList.drop (off * k')).take (len * k') ≠ [] := fun e0 => by rw [e0] at hj; simp at hj
                rcases Nat.eq_zero_or_pos (len * k') with h0 | h0
                · rw [h0] at this; simp at this
                · exact h0
              have hlen : 0 < len := Nat.pos_of_mul_pos_right hpos
              have hoff := h4 (by omega)
              have hc := v3 _ c (drop_take_get hj)
              rw [add_any h3, h2, hoff]
              rw [show i * K + o + off * k' + j = i * K + o + (off * k' + j) by omega]
              exact hc
          · cases he
        · cases he
    · cases he
  | _ => simp [elsOf] at he

theorem sliceLen_rel {x : AV} {v : Value} {n : Nat} (hs : sliceLen x = some n) (hv : VRel F m x v) : ∃ ad cap, v = .slice ad n cap := by
  cases x with
  | v y =>
    simp only [VRel] at hv
    obtain ⟨_, rfl⟩ := hv
    unfold sliceLen at hs
    split at hs <;> simp_all
  | lit k full l =>
    simp only [VRel] at hv
    obtain ⟨ad, cap, cs, _, _, _, _, _, _, rfl⟩ := hv
    simp only [sliceLen, Option.some.injEq] at hs
    exact ⟨_, _, by rw [hs]⟩
  | sl id gen off len =>
    simp only [VRel] at hv
    obtain ⟨g, C, k, ad, _, _, _, _, _, rfl⟩ := hv
    simp only [sliceLen, Option.some.injEq] at hs
    exact ⟨_, _, by rw [hs]⟩
  | isl id gen i p o k off len n =>
    simp only [VRel] at hv
    obtain ⟨g, C, k, ad, _, _, _, _, _, rfl⟩ := hv
    simp only [sliceLen, Option.some.injEq] at hs
    exact ⟨_, _, by rw [hs]⟩
  | _ => simp [sliceLen] at hs

/-! ### Addresses of elements, elements -/
theorem indexAt_run {t : TypeId} {e : TypeId} {n : Nat} {base : Addr} {x : Value} {k : IntKind} {i : Int} {s : Nat} (hx : (P.underlying t = some (.array n e) ∧ x = .pointer (some base)) ∨ (∃ c, P.underlying t = some (.slice e) ∧ x = .slice (some base) n c))
    (h0 : 0 ≤ i) (h1 : i < (n : Int)) (hs : szOf P e = some s) : (Instr.indexAt t x (.int k i)).run P w = .ok (.pointer (some (base.add (i.toNat * s)))) w := by
  rcases hx with ⟨hu, rfl⟩ | ⟨c, hu, rfl⟩ <;>
    simp [-bind_pure_comp, Instr.indexAt, asIntOf, run_underlying hu, Instr.sureAddr, h0, h1, szOf_run hs]

theorem indexAddr_run (r : Rel F m h w) {t : TypeId} {p ix y : AV} {pv iv : Value} (hp : VRel F m p pv) (hi : VRel F m ix iv) (ho : indexAddrE P h t p ix = some y) :
    ∃ v, (Instr.indexAt t pv iv).run P w = .ok v w ∧ VRel F m y v := by
  unfold indexAddrE at ho
  split at ho
  · rename_i len e hu
    split at ho
    · rename_i k j hk hj
      obtain ⟨ki, n, rfl, h0, h1, h2⟩ := idx_eq hj hi
      split at ho
      · rename_i id gen i pa o
        injection ho with ho
        subst ho
        simp only [VRel] at hp
        obtain ⟨g, C, k1, g1, rfl⟩ := hp
        refine ⟨_, indexAt_run (.inl ⟨hu, rfl⟩) h0 h1 hk, ?_⟩
        simp only [VRel]
        exact ⟨g, C, k1, g1, by rw [add_off, h2, Nat.add_assoc]⟩
      · rename_i l
        split at ho
        · rename_i y' hn
          injection ho with ho
          subst ho
          simp only [VRel] at hp
          obtain ⟨ad, z, ⟨cs, g1, rfl⟩, g2, g3, g4, rfl⟩ := hp
          obtain ⟨z', k1, k2, k3, k4⟩ := navL_rel l j [] (j * k) y' hn cs g1
          refine ⟨_, indexAt_run (.inl ⟨hu, rfl⟩) h0 h1 hk, ?_⟩
          simp only [VRel]
          refine ⟨_, z', k1, k2, FC.sub g3 g4 (fun q c hq => ?_), spot_add g4 _, rfl⟩
          rw [k3] at hq
          rw [h2]
          simpa [Value.cells] using drop_take_get hq
        · cases ho
      · cases ho
    · cases ho
  · rename_i e hu
    split at ho
    · rename_i k k' full l hk
      split at ho
      · rename_i j hj
        cases hb : Nat.beq k k' with
        | false => simp [hb] at ho
        | true =>
          simp only [hb, cond_true] at ho
          have ek : k = k' := Nat.eq_of_beq_eq_true hb
          subst ek
          split at ho
          · rename_i y' hl
            injection ho with ho
            subst ho
            obtain ⟨ki, n, rfl, h0, h1, h2⟩ := idx_eq hj hi
            simp only [VRel] at hp
            obtain ⟨ad, cap, cs, g1, g2, g3, g4, g5, g6, rfl⟩ := hp
            obtain ⟨z', k1, k2, k3⟩ := CL_get g1 g2 hl
            refine ⟨_, indexAt_run (.inr ⟨cap, hu, rfl⟩) h0 h1 hk, ?_⟩
            simp only [VRel]
            refine ⟨_, z', k1, k2, FC.sub g3 g4 (fun q c hq => ?_), spot_add g4 _, rfl⟩
            rw [k3] at hq
            rw [h2]
            exact drop_take_get hq
          · cases ho
      · cases ho
    · rename_i k id gen off len hk
      split at ho
      · rename_i j k' g els ex hj hr
        cases hb : (Nat.beq k k' && Nat.beq g gen) with
        | false => simp [hb] at ho
        | true =>
          simp only [hb, cond_true, Option.some.injEq] at ho
          subst ho
          rw [Bool.and_eq_true] at hb
          have ek : k = k' := Nat.eq_of_beq_eq_true hb.1
          have eg : g = gen := Nat.eq_of_beq_eq_true hb.2
          subst ek; subst eg
          obtain ⟨ki, n, rfl, h0, h1, h2⟩ := idx_eq hj hi
          obtain ⟨gb, C, e', cur, ad, xr, g1, g2, g3, g4, rfl⟩ := sl_row r hp hr
          refine ⟨_, indexAt_run (.inr ⟨_, hu, rfl⟩) h0 h1 hk, ?_⟩
          simp only [VRel]
          refine ⟨gb, C, k, xr.mp, ?_⟩
          have hoff := g4 (by omega)
          rw [add_any g3, g2, hoff, h2, Nat.add_zero, Nat.add_mul]
      · cases ho
    · rename_i k id gen i pa o k' off len n hk
      split at ho
      · rename_i j hj
        cases hb : Nat.beq k k' with
        | false => simp [hb] at ho
        | true =>
          simp only [hb, cond_true, Option.some.injEq] at ho
          subst ho
          have ek : k = k' := Nat.eq_of_beq_eq_true hb
          subst ek
          obtain ⟨ki, nn, rfl, h0, h1, h2⟩ := idx_eq hj hi
          simp only [VRel] at hp
          obtain ⟨g, C, K, ad, g1, g2, g3, g4, g5, rfl⟩ := hp
          refine ⟨_, indexAt_run (.inr ⟨_, hu, rfl⟩) h0 h1 hk, ?_⟩
          simp only [VRel]
          refine ⟨g, C, K, g1, ?_⟩
          have hoff := g5 (by omega)
          rw [add_any g4, g3, hoff, h2, Nat.add_mul]
          congr 3
          omega
      · cases ho
    · cases ho
  · cases ho

theorem index_run {t : TypeId} {x ix y : AV} {xv iv : Value} (hx : VRel F m x xv) (hi : VRel F m ix iv) (ho : indexE P t x ix = some y) : ∃ v, (Instr.index t xv iv).run P w = .ok v w ∧ VRel F m y v := by
  unfold indexE at ho
  split at ho
  · rename_i len e l hu
    split at ho
    · rename_i k j hk hj
      obtain ⟨ki, n, rfl, h0, h1, h2⟩ := idx_eq hj hi
      simp only [VRel] at hx
      obtain ⟨cs, g1, rfl⟩ := hx
      obtain ⟨z, z1, z2⟩ := part_run (w := w) g1 ho
      refine ⟨z, ?_, z2⟩
      simp [-bind_pure_comp, Instr.index, asIntOf, run_underlying hu, h0, h1, szOf_run hk, h2, z1]
    · cases ho
  · rename_i s hu
    split at ho
    · rename_i j hj
      obtain ⟨ki, n, rfl, h0, h1, h2⟩ := idx_eq hj hi
      split at ho
      · rename_i b hb
        injection ho with ho
        subst ho
        simp only [VRel] at hx
        obtain ⟨_, rfl⟩ := hx
        refine ⟨_, ?_, by simp only [VRel]; exact ⟨rfl, rfl⟩⟩
        simp [-bind_pure_comp, Instr.index, asIntOf, run_underlying hu, h0, h2, hb]
      · cases ho
    · cases ho
  · cases ho

end Go.AM
