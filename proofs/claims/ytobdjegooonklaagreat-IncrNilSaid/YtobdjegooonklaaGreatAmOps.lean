/- Each operation of the abstract machine is one of the real machine. Conditions: none. -/
import Derived.Test.YtobdjegooonklaaGreatAmMem
set_option linter.unusedVariables false
set_option linter.unusedSimpArgs false
namespace Go.AM
open Go

structure FRel (F : Fz) (m : Mp) (fr : FR) (tmps : Array Value) : Prop where
  get : ∀ t y, get fr t = some y → ∃ v, tmps[t]? = some v ∧ VRel F m y v

theorem FRel.mono {F F' : Fz} {m m' : Mp} (e : Ext F m F' m') {fr : FR} {tmps : Array Value} (h : FRel F m fr tmps) : FRel F' m' fr tmps :=
  ⟨fun t y ht => by obtain ⟨v, h1, h2⟩ := h.get t y ht; exact ⟨v, h1, h2.mono e⟩⟩

variable {F : Fz} {m : Mp} {fr : FR} {a : Act} {h : Heap} {w : World} {P : Program}

theorem ev_rel (hf : FRel F m fr a.tmps) {x : Operand} {y : AV} (hy : ev fr x = some y) : VRel F m y (a.eval x) := by
  cases x with
  | tmp t =>
    simp only [ev] at hy
    obtain ⟨v, h1, h2⟩ := hf.get t y hy
    have : a.eval (.tmp t) = v := by simp [Act.eval, Array.getD_eq_getD_getElem?, h1]
    rw [this]; exact h2
  | const x =>
    simp only [ev] at hy
    cases hx : free x with
    | false => simp [hx] at hy
    | true => simp [hx] at hy; subst hy; simp [VRel, hx, Act.eval]
  | global g => simp [ev] at hy
  | func f =>
    simp only [ev] at hy
    injection hy with hy
    subst hy
    simp [VRel, VL, Act.eval]

theorem evL_rel (hf : FRel F m fr a.tmps) : ∀ {l : List Operand} {ys : List AV}, evL fr l = some ys → VL F m ys (l.map a.eval)
  | [], ys, hy => by simp [evL] at hy; simp [hy, VL]
  | x :: l, ys, hy => by
    simp only [evL] at hy
    cases hx : ev fr x with
    | none => rw [hx] at hy; cases hy
    | some y =>
      cases hl : evL fr l with
      | none => rw [hx, hl] at hy; cases hy
      | some zs =>
        rw [hx, hl] at hy
        injection hy with hy
        subst hy
        simp only [VL, List.map_cons]
        exact ⟨_, _, ev_rel hf hx, evL_rel hf hl, rfl⟩

def PL (F : Fz) (m : Mp) : List (Nat × AV) → List (Nat × Value) → Prop
  | [], vs => vs = []
  | (i, y) :: l, vs => ∃ v r, VRel F m y v ∧ PL F m l r ∧ vs = (i, v) :: r

theorem evP_rel (hf : FRel F m fr a.tmps) : ∀ {l : List (Nat × Operand)} {ys : List (Nat × AV)}, evP fr l = some ys → PL F m ys (l.map fun q => (q.1, a.eval q.2))
  | [], ys, hy => by simp [evP] at hy; simp [hy, PL]
  | (i, x) :: l, ys, hy => by
    simp only [evP] at hy
    cases hx : ev fr x with
    | none => rw [hx] at hy; cases hy
    | some y =>
      cases hl : evP fr l with
      | none => rw [hx, hl] at hy; cases hy
      | some zs =>
        rw [hx, hl] at hy
        injection hy with hy
        subst hy
        simp only [PL, List.map_cons]
        exact ⟨_, _, ev_rel hf hx, evP_rel hf hl, rfl⟩

theorem notTup_of {x : AV} {y : Value} (hr : VRel F m x y) (hx : isTupA x = false) : isTup y = false := by
  cases x with
  | tup l => simp [isTupA] at hx
  | v x => simp only [VRel] at hr; obtain ⟨hr, rfl⟩ := hr; exact (free_cells hr).2.2
  | agg l => obtain ⟨cs, _, rfl⟩ := (show ∃ cs, _ ∧ _ by simpa only [VRel] using hr); rfl
  | any => simp only [VRel] at hr; cases y <;> simp_all [Value.oneCell', isTup]
  | lit k full l => simp only [VRel] at hr; obtain ⟨a, cap, cs, _, _, _, _, _, _, rfl⟩ := hr; rfl
  | sl => simp only [VRel] at hr; obtain ⟨g, C, k, a, _, _, _, _, _, rfl⟩ := hr; rfl
  | isl => simp only [VRel] at hr; obtain ⟨g, C, k, a, _, _, _, _, _, rfl⟩ := hr; rfl
  | ptr => simp only [VRel] at hr; obtain ⟨g, C, k, _, rfl⟩ := hr; rfl
  | rop x => simp only [VRel] at hr; obtain ⟨a, z, _, _, _, _, rfl⟩ := hr; rfl
  | map id => simp only [VRel] at hr; obtain ⟨g, _, rfl⟩ := hr; rfl
  | fn f p q => simp only [VRel] at hr; obtain ⟨xs, ys, _, _, rfl⟩ := hr; rfl

/-! ### Types -/
theorem szOf_run {t : TypeId} {n : Nat} (ht : szOf P t = some n) (w : World) : (sizeOf t).run P w = .ok n w := by
  simp only [szOf, Option.map_eq_some_iff] at ht
  obtain ⟨i, h1, h2⟩ := ht
  simp [sizeOf, typeInfo, h1, h2]

theorem szOf_info {t : TypeId} {n : Nat} (ht : szOf P t = some n) : ∃ i, P.info? t = some i ∧ i.size = n := by
  simpa only [szOf, Option.map_eq_some_iff] using ht

theorem aggT_run {t : TypeId} {b : Bool} (ht : aggT P t = some b) (w : World) : (isAgg t).run P w = .ok b w := by
  unfold aggT at ht
  cases hu : P.underlying t with
  | none => rw [hu] at ht; cases ht
  | some d =>
    rw [hu] at ht
    have hr := run_underlying hu w
    cases d <;> simp_all [isAgg]

/-! ### Loads -/
/-- A variable's cells known: what is read of it. -/
theorem run_loadVar_of {t : TypeId} {ad : Addr} {y : AV} {z : Value} (hr : VRel F m y z) (ht : isTup z = false) (hs : szOf P t = some (leafs y)) (ha : aggT P t = some (isAggA y))
    (hc : ∀ j v, z.cells.toList[j]? = some v → w.cell? (ad.add j) = some v) : (loadVar t ad).run P w = .ok z w := by
  have hsz : z.cells.toList.length = leafs y := by simp [VRel.size y z hr ht]
  have hl := run_loadCells_list (P := P) w ad z.cells.toList hc
  rw [hsz] at hl
  unfold loadVar
  simp only [Sem.run_bind, aggT_run ha, Result.andThen_ok]
  cases hg : isAggA y with
  | true =>
    simp only [if_true, Sem.run_bind, szOf_run hs, Result.andThen_ok, hl, Sem.run_pure]
    cases y <;> simp [isAggA] at hg
    obtain ⟨h1, _⟩ := hr.ofAgg
    rw [h1]
    simp [Value.cells]
  | false =>
    have h1 := hr.scalar ht hg
    have h0 := hc 0 z (by rw [h1]; simp)
    have : ad.add 0 = ad := by simp [Addr.add]
    rw [this] at h0
    simp [h0]

theorem add_off (g o j : Nat) : (⟨g, o, none⟩ : Addr).add j = ⟨g, o + j, none⟩ := by unfold Addr.add; split <;> simp_all

theorem add_any {ad : Addr} (h : ad.spot = none) (j : Nat) : ad.add j = ⟨ad.block, ad.off + j, none⟩ := by
  obtain ⟨b, o, s⟩ := ad
  simp only at h
  subst h
  exact add_off b o j

/-- The cells of one place in a row. -/
theorem row_cells {id k gen : Nat} {els : List AV} {ex : Tag} {g C : Nat} {e : TypeId} {cur : Array Value} (x : RowR F m w id k gen els ex g C e cur) {i : Nat} {z : AV} (hi : els[i]? = some z)
    {p : List Nat} {o : Nat} {y : AV} (hn : nav z p o = some y) :
    ∃ v, VRel F m y v ∧ isTup v = false ∧ (∀ j c, v.cells.toList[j]? = some c → w.cell? ⟨g, i * k + o + j, none⟩ = some c) ∧ o + leafs y ≤ k ∧ i * k + k ≤ els.length * k := by
  have hil := lt_of_getElem? hi
  have hmul : i * k + k ≤ els.length * k := by have := Nat.mul_le_mul_right k (show i + 1 ≤ els.length by omega); rwa [Nat.add_mul, Nat.one_mul] at this
  obtain ⟨v, h1, h2, h3⟩ := CL_get x.cells x.all hi
  obtain ⟨u, g1, g2, g3, g4⟩ := nav_rel z p o y hn v h1 h2
  have hz : leafs z = k := allK_get x.all hi
  rw [hz] at g4
  refine ⟨u, g1, g2, fun j c hj => ?_, g4, hmul⟩
  have hjl : j < leafs y := by have := lt_of_getElem? hj; rwa [Array.length_toList, VRel.size y u g1 g2] at this
  rw [g3, h3] at hj
  simp only [List.getElem?_take, List.getElem?_drop] at hj
  rw [if_pos hjl, if_pos (by omega), if_pos (by omega)] at hj
  simp only [World.cell?, x.heap]
  rw [show i * k + o + j = i * k + (o + j) by omega]
  simpa using hj

theorem partE_eq {t : TypeId} {q : Option AV} {y : AV} (hp : partE P t q = some y) : q = some y ∧ szOf P t = some (leafs y) ∧ aggT P t = some (isAggA y) := by
  unfold partE at hp
  split at hp
  · rename_i z n b e1 e2
    cases hb : (Nat.beq (leafs z) n && (b == isAggA z)) with
    | false => simp [hb] at hp
    | true =>
      simp only [hb, cond_true, Option.some.injEq] at hp
      subst hp
      rw [Bool.and_eq_true] at hb
      have e3 : leafs z = n := Nat.eq_of_beq_eq_true hb.1
      have e4 : b = isAggA z := by simpa using hb.2
      exact ⟨rfl, by rw [e1, e3], by rw [e2, e4]⟩
  · cases hp

theorem ptr_row (r : Rel F m h w) {id gen i o : Nat} {p : List Nat} {pv : Value} (hp : VRel F m (.ptr id gen i p o) pv) {k : Nat} {els : List AV} {ex : Tag} (hr : h[id]? = some (.row k gen els ex)) :
    ∃ g C e cur, RowR F m w id k gen els ex g C e cur ∧ pv = .pointer (some ⟨g, i * k + o, none⟩) := by
  simp only [VRel] at hp
  obtain ⟨g, C, k1, h1, rfl⟩ := hp
  obtain ⟨g2, C2, e2, cur, xr⟩ := r.row _ _ _ _ _ hr
  have hm := xr.mp
  rw [h1] at hm
  injection hm with hm
  injection hm with hm1 hm2
  injection hm2 with hm2 hm3
  subst hm1; subst hm2; subst hm3
  exact ⟨_, _, _, _, xr, rfl⟩

/-- What stands at a pointer. -/
theorem lookAt_rel (r : Rel F m h w) {p y : AV} {pv : Value} (hp : VRel F m p pv) (hl : lookAt h p = some y) :
    ∃ ad v, pv = .pointer (some ad) ∧ VRel F m y v ∧ isTup v = false ∧ (∀ j c, v.cells.toList[j]? = some c → w.cell? (ad.add j) = some c) := by
  cases p with
  | ptr id gen i pa o =>
    simp only [lookAt] at hl
    split at hl
    · rename_i k g els ex hr
      cases hg : Nat.beq g gen with
      | false => simp [hg] at hl
      | true =>
        simp only [hg, cond_true] at hl
        have : g = gen := Nat.eq_of_beq_eq_true hg
        subst this
        split at hl
        · rename_i x hi
          obtain ⟨g2, C2, e2, cur, xr, rfl⟩ := ptr_row r hp hr
          obtain ⟨v, v1, v2, v3, _⟩ := row_cells xr hi hl
          exact ⟨_, v, rfl, v1, v2, fun j c hj => by rw [add_off]; exact v3 j c hj⟩
        · cases hl
    · cases hl
  | rop x =>
    simp only [lookAt] at hl
    injection hl with hl
    subst hl
    simp only [VRel] at hp
    obtain ⟨ad, v, v1, v2, v3, v4, rfl⟩ := hp
    refine ⟨ad, v, rfl, v1, v2, fun j c hj => ?_⟩
    obtain ⟨cc, e, fz, f1, f2⟩ := v3 j c hj
    rw [add_any v4]
    simp [World.cell?, r.fz _ _ f1, f2]
  | _ => simp [lookAt] at hl

theorem loadE_run (r : Rel F m h w) {t : TypeId} {p y : AV} {pv : Value} (hp : VRel F m p pv) (hl : loadE P h t p = some y) :
    ∃ ad v, pv = .pointer (some ad) ∧ (loadVar t ad).run P w = .ok v w ∧ VRel F m y v ∧ isTup v = false := by
  obtain ⟨h1, h2, h3⟩ := partE_eq hl
  obtain ⟨ad, v, v1, v2, v3, v4⟩ := lookAt_rel r hp h1
  exact ⟨ad, v, v1, run_loadVar_of v2 v3 h2 h3 v4, v2, v3⟩

/-! ### Stores -/
theorem run_storeVar_at {t : TypeId} {g o : Nat} {e : TypeId} {cur : Array Value} {v : Value} (hg : w.heap[g]? = some (.cells cur e (0, 0))) (hs : szOf P t = some v.cells.size)
    (hfit : o + v.cells.size ≤ cur.size) (h1 : ∀ c ∈ v.cells.toList, c.oneCell' = true) :
    (storeVar t ⟨g, o, none⟩ v).run P w = .ok () (w.setRow g (splice cur.toList o v.cells.toList).toArray) := by
  have hst := run_storeCells_at P g o e v.cells.toList 0 cur w hg (by simpa using hfit) h1
  unfold storeVar
  simp only [Sem.run_bind, szOf_run hs, Result.andThen_ok]
  simpa [splice] using hst

theorem take_splice {l z : List Value} {o n : Nat} (h : o + z.length ≤ n) (hn : n ≤ l.length) : (splice l o z).take n = splice (l.take n) o z := by
  unfold splice
  rw [List.take_append, List.take_append]
  simp only [List.length_append, List.length_take]
  rw [Nat.min_eq_left (by omega), List.take_of_length_le (i := n) (l := l.take o) (by simp; omega), List.take_of_length_le (i := n - o) (l := z) (by omega)]
  rw [List.take_take, Nat.min_eq_left (by omega), List.drop_take]
  try (congr 2; omega)

theorem splice_in {A B C z : List Value} {o : Nat} (h : o + z.length ≤ B.length) : splice (A ++ (B ++ C)) (A.length + o) z = splice (A ++ (B ++ C)) A.length (splice B o z) := by
  have e1 : splice (A ++ (B ++ C)) (A.length + o) z = A ++ (splice B o z ++ C) := by
    rw [splice_append_right (by omega), show A.length + o - A.length = o by omega, splice_append_left h]
  have e2 : splice (A ++ (B ++ C)) A.length (splice B o z) = A ++ (splice B o z ++ C) := by
    rw [splice_append_right (Nat.le_refl _), Nat.sub_self]
    congr 1
    have e := splice_length h
    generalize splice B o z = D at e
    unfold splice
    simp only [List.take_zero, List.nil_append, Nat.zero_add]
    rw [e, List.drop_left]
  rw [e1, e2]

/-- A place within an element is a place within the row. -/
theorem splice_elem {L z : List Value} {i k o : Nat} (h1 : i + k ≤ L.length) (h2 : o + z.length ≤ k) : splice L (i + o) z = splice L i (splice ((L.drop i).take k) o z) := by
  have hA : (L.take i).length = i := by simp; omega
  have hB : ((L.drop i).take k).length = k := by simp; omega
  have hL : L = L.take i ++ ((L.drop i).take k ++ (L.drop i).drop k) := by rw [List.take_append_drop, List.take_append_drop]
  have := splice_in (A := L.take i) (B := (L.drop i).take k) (C := (L.drop i).drop k) (z := z) (o := o) (by omega)
  rw [← hL, hA] at this
  exact this

theorem splice_size {cur : Array Value} {z : List Value} {o : Nat} (h : o + z.length ≤ cur.size) : (splice cur.toList o z).toArray.size = cur.size := by
  simp [splice_length (l := cur.toList) (by simpa using h)]

theorem storeE_run (r : Rel F m h w) {t : TypeId} {p x : AV} {pv xv : Value} {h' : Heap} {id : Nat} (hp : VRel F m p pv) (hx : VRel F m x xv) (hl : storeE P h t p x = some (h', id)) :
    ∃ ad w', pv = .pointer (some ad) ∧ (storeVar t ad xv).run P w = .ok () w' ∧ Rel F m h' w' ∧ Same w w' := by
  unfold storeE at hl
  cases p with
  | ptr id0 gen i pa o =>
    cases hs : szOf P t with
    | none => simp [hs] at hl
    | some n =>
      simp only [hs] at hl
      cases hr : h[id0]? with
      | none => simp [hr] at hl
      | some row =>
        cases row with
        | map es c => simp [hr] at hl
        | dead => simp [hr] at hl
        | row k g0 els ex =>
          simp only [hr] at hl
          cases hb : (Nat.beq g0 gen && Nat.beq (leafs x) n && !isTupA x) with
          | false => simp [hb] at hl
          | true =>
            simp only [hb, cond_true] at hl
            rw [Bool.and_eq_true, Bool.and_eq_true] at hb
            have e1 : g0 = gen := Nat.eq_of_beq_eq_true hb.1.1
            have e2 : leafs x = n := Nat.eq_of_beq_eq_true hb.1.2
            have e3 : isTupA x = false := by simpa using hb.2
            subst e1; subst e2
            cases hi : els[i]? with
            | none => simp [hi] at hl
            | some z =>
              simp only [hi] at hl
              cases hput : put z pa o x with
              | none => simp [hput] at hl
              | some z' =>
                simp only [hput, Option.some.injEq, Prod.mk.injEq] at hl
                obtain ⟨rfl, rfl⟩ := hl
                simp only [VRel] at hp
                obtain ⟨g, C, k', h1, rfl⟩ := hp
                obtain ⟨g2, C2, e2, cur, xr⟩ := r.row _ _ _ _ _ hr
                have hm := xr.mp
                rw [h1] at hm
                injection hm with hm
                injection hm with hm1 hm2
                injection hm2 with hm2 hm3
                subst hm1; subst hm2; subst hm3
                have hxt := notTup_of hx e3
                have hil := lt_of_getElem? hi
                have hmul : i * k' + k' ≤ els.length * k' := by have := Nat.mul_le_mul_right k' (show i + 1 ≤ els.length by omega); rwa [Nat.add_mul, Nat.one_mul] at this
                have hC : els.length * k' ≤ C * k' := Nat.mul_le_mul_right _ xr.len
                obtain ⟨u, u1, u2, u3⟩ := CL_get xr.cells xr.all hi
                obtain ⟨v', v1, v2, v3, v4, v5⟩ := put_rel hx hxt z pa o z' hput u u1 u2
                have hz : leafs z = k' := allK_get xr.all hi
                have hxs : xv.cells.toList.length = leafs x := by simp [VRel.size x xv hx hxt]
                have hxs' : xv.cells.size = leafs x := VRel.size x xv hx hxt
                have hcs : cur.size = C * k' := xr.size
                have hfit : i * k' + o + xv.cells.size ≤ cur.size := by rw [hxs', hcs]; omega
                refine ⟨_, _, rfl, run_storeVar_at xr.heap (by rw [hxs']; exact hs) hfit (VRel.one x xv hx hxt), ?_, same_setRow _ _ _⟩
                refine r.setRow hr xr (splice_size (by rw [hxs]; rw [hxs'] at hfit; omega)) (by simpa using xr.len) (by simpa using xr.exact) (allK_set xr.all (by rw [v4, hz])) ?_
                have hset := CL_set xr.cells xr.all hil v1 v2 (by rw [v4, hz])
                have hlen : (els.set i z').length = els.length := by simp
                rw [hlen]
                have goal : (splice cur.toList (i * k' + o) xv.cells.toList).take (els.length * k') = splice (cur.toList.take (els.length * k')) (i * k') v'.cells.toList := by
                  rw [take_splice (by omega) (by simp; omega), v3, u3]
                  have hL : (cur.toList.take (els.length * k')).length = els.length * k' := by simp; omega
                  exact splice_elem (by omega) (by omega)
                show CL F m (els.set i z') (List.take (els.length * k') (splice cur.toList (i * k' + o) xv.cells.toList).toArray.toList)
                rw [List.toList_toArray, goal]
                exact hset
  | _ => simp at hl

end Go.AM
