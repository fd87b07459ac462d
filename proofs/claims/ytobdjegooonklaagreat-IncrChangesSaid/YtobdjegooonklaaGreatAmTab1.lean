/- A table's routes sought. Conditions: none. -/
import Derived.Test.YtobdjegooonklaaGreatAmIncr
import Derived.Test.YtobdjegooonklaaGreatAmCmp2
import Derived.Test.YtobdjegooonklaaGreatAmIns3
set_option linter.unusedSimpArgs false
set_option linter.unusedVariables false
namespace Go.Proofs.YtobdjegooonklaaGreat
open Go Go.AM

/-- A slice whose elements are these routes (behind them others may stand). -/
def RV (h : Heap) (x : AV) (l : List Route) : Prop := (x = nilS ∧ l = []) ∨ (∃ b, x = .lit 20 b (l.map Route.av)) ∨ ∃ id g els ex, x = .sl id g 0 l.length ∧ h[id]? = some (.row 20 g els ex) ∧ els.take l.length = l.map Route.av

theorem RV.len {h : Heap} {x : AV} {l : List Route} (s : RV h x l) : sliceLen x = some l.length := by
  rcases s with ⟨rfl, rfl⟩ | ⟨b, rfl⟩ | ⟨id, gen, els, ex, rfl, _⟩
  · rfl
  · simp [sliceLen]
  · rfl
theorem RV.stay {h h' : Heap} {x : AV} {l : List Route} (s : RV h x l) (hh : ∀ id, id < h.length → h'[id]? = h[id]?) : RV h' x l := by
  rcases s with s | s | ⟨id, gen, els, ex, hx, hr, ht⟩
  · exact .inl s
  · exact .inr (.inl s)
  · exact .inr (.inr ⟨id, gen, els, ex, hx, by rw [hh id (List.getElem?_eq_some_iff.1 hr).1]; exact hr, ht⟩)
theorem RV.push {h : Heap} {x : AV} {l : List Route} (s : RV h x l) (k : Heap) : RV (h ++ k) x l := s.stay fun id hi => List.getElem?_append_left hi
theorem RV.at {h : Heap} {x : AV} {l : List Route} (s : RV h x l) {j : Nat} {r : Route} (hy : l[j]? = some r) :
    ∃ a, indexAddrE E.P h 36 x (.v (.int .i64 (j : Nat))) = some a ∧ lookAt h a = some r.av := by
  have hj : j < l.length := (List.getElem?_eq_some_iff.1 hy).1
  have h1 : (0 : Int) ≤ j := by omega
  have h2 : (j : Int) < l.length := by omega
  rcases s with ⟨_, rfl⟩ | ⟨b, rfl⟩ | ⟨id, gen, els, ex, rfl, hr, ht⟩
  · simp at hy
  · exact ⟨.rop r.av, by simp [indexAddrE, und_36, sz_58, idx, h2, hy], rfl⟩
  · have he : els[j]? = some r.av := by
      have := congrArg (·[j]?) ht
      simp only [List.getElem?_take_of_lt hj, List.getElem?_map, hy, Option.map_some] at this
      exact this
    refine ⟨.ptr id gen j [] 0, by simp [indexAddrE, und_36, sz_58, idx, h2, hr], ?_⟩
    simp [lookAt, hr, he, nav]
theorem RV.lit (h : Heap) (b : Bool) (l : List Route) : RV h (.lit 20 b (l.map Route.av)) l := .inr (.inl ⟨b, rfl⟩)

/-! ### The place of a prefix -/
def cmpAt (p : Pre) (r : Route) : Int := cmpP r.to p
def pos (l : List Route) (p : Pre) : Nat := (l.takeWhile fun r => decide (cmpAt p r < 0)).length
def has (l : List Route) (p : Pre) : Bool := match l[pos l p]? with
  | some r => decide (cmpAt p r = 0)
  | none => false
def Sorted (l : List Route) : Prop := l.Pairwise fun a b => cmpP a.to b.to < 0

theorem pos_le (l : List Route) (p : Pre) : pos l p ≤ l.length := by unfold pos; exact (List.takeWhile_prefix _).length_le
theorem pos_cons (x : Route) (l : List Route) (p : Pre) : pos (x :: l) p = if cmpAt p x < 0 then pos l p + 1 else 0 := by
  unfold pos
  rw [List.takeWhile_cons]
  by_cases hx : cmpAt p x < 0 <;> simp [hx]
theorem pos_lt {p : Pre} : ∀ {l : List Route} {k : Nat}, k < pos l p → ∃ r, l[k]? = some r ∧ cmpAt p r < 0
  | [], k, h => by simp [pos] at h
  | x :: l, k, h => by
    rw [pos_cons] at h
    by_cases hx : cmpAt p x < 0
    · rw [if_pos hx] at h
      cases k with
      | zero => exact ⟨x, rfl, hx⟩
      | succ k =>
        obtain ⟨r, h1, h2⟩ := pos_lt (p := p) (l := l) (k := k) (by omega)
        exact ⟨r, by simpa using h1, h2⟩
    · rw [if_neg hx] at h
      omega
theorem pos_at {l : List Route} {p : Pre} {r : Route} (hr : l[pos l p]? = some r) : ¬ cmpAt p r < 0 := by
  intro hlt
  have : ∀ (l : List Route), l[pos l p]? = some r → False := by
    intro l
    induction l with
    | nil => intro h; simp at h
    | cons x l ih =>
      intro h
      unfold pos at h
      rw [List.takeWhile_cons] at h
      by_cases hx : cmpAt p x < 0
      · simp only [hx, decide_true, if_true, List.length_cons, List.getElem?_cons_succ] at h
        exact ih h
      · simp only [hx, decide_false, Bool.false_eq_true, if_false, List.length_nil, List.getElem?_cons_zero, Option.some.injEq] at h
        subst h
        exact hx hlt
  exact this l hr
theorem pos_eq {l : List Route} {p : Pre} {i : Nat} (hi : i ≤ l.length) (h1 : ∀ k, k < i → ∀ r, l[k]? = some r → cmpAt p r < 0) (h2 : ∀ r, l[i]? = some r → ¬ cmpAt p r < 0) : pos l p = i := by
  rcases Nat.lt_trichotomy (pos l p) i with h | h | h
  · have hl : pos l p < l.length := by omega
    exact (pos_at (List.getElem?_eq_getElem hl) (h1 _ h _ (List.getElem?_eq_getElem hl))).elim
  · exact h
  · obtain ⟨r, hr, hlt⟩ := pos_lt h
    exact (h2 r hr hlt).elim

theorem c111 (n : Nat) (h : Heap) (r : Route) (p : Pre) (hr : r.to.ad.length = 16) (hp : p.ad.length = 16) : call E (n + 503) 111 [r.av, p.av] h = some (.v (.int .i64 (cmpAt p r)), h, ⟨[], [], true⟩) := by
  have hl : leafs r.to.av = 18 := by simp [Pre.av, AM.leafs, leafsL, leafs_bytes, hr]
  have hl2 : leafs p.av = 18 := by simp [Pre.av, AM.leafs, leafsL, leafs_bytes, hp]
  have ha : isAggA r.to.av = true := rfl
  have ha2 : isAggA p.av = true := rfl
  have ht : isTupA p.av = false := rfl
  have k := fun h => c49 n r.to p hr hp h
  rw [call_at (E := E) (f := 111) (fn := Tryz.f111) rfl Tryz.func111 rfl (Nat.le_of_ble_eq_true rfl)]
  simp -implicitDefEqProofs only [simA, Nat.reduceAdd, Nat.reduceLT, Nat.reduceEqDiff, Nat.reduceLeDiff, Nat.reduceMul, Int.reduceBEq, Int.reduceBNe, Int.reduceLT, Int.reduceLE, Int.reduceAdd, Int.reduceSub, Int.reduceMul, Int.reduceNeg, Nat.reduceSub, Nat.reducePow, Nat.reduceDiv, Nat.reduceMod, fo_58_0, sz_55, agg_55, keep_111, E_masks, masks, rows_111, Tryz.f111, Route.av, hl, hl2, ha, ha2, ht, k, cmpAt, pairsOK, clsOf, compat]
  try rfl

theorem half {i j : Nat} (hb : i + j < 1000000) : IntKind.i64.wrap ((IntKind.u64.wrap (IntKind.i64.wrap ((i : Int) + (j : Int)))).fdiv (2 ^ (min (1 : Int).toNat IntKind.u64.bits))) = (((i + j) / 2 : Nat) : Int) := by
  have w1 : IntKind.i64.wrap ((i : Int) + (j : Int)) = ((i + j : Nat) : Int) := by rw [wrap_i64 (by omega) (by omega)]; omega
  have w2 : IntKind.u64.wrap ((i + j : Nat) : Int) = ((i + j : Nat) : Int) := by simp [IntKind.wrap, IntKind.bits, IntKind.signed]; omega
  have e : (2 : Int) ^ (min (1 : Int).toNat IntKind.u64.bits) = 2 := by decide
  rw [w1, w2, e, Int.fdiv_eq_ediv_of_nonneg _ (by decide), wrap_i64 (by omega) (by omega)]
  omega

theorem round110 (n : Nat) (h0 : Heap) (h : Heap) (s : AV) (l : List Route) (p : Pre) (sv : RV h s l) (hok : ∀ r ∈ l, r.ok) (hp : p.ad.length = 16) (bid : Nat) (hbx : h[bid]? = some (.row 18 0 [p.av] ⟨true, 55⟩)) (i j : Nat) (hij : i < j) (hj : j ≤ l.length) (hl : l.length < 490) :
    ∃ fr i' j', exec E (call E (n + 503)) (n + 503) 110 49 h0.length (loopB Tryz.f110 0) ⟨[(0, s), (2, .fn (.func 111) [] []), (4, .ptr bid 0 0 [] 0), (8, .v (.int .i64 (l.length : Nat))), (9, .v (.int .i64 (i : Nat))), (10, .v (.int .i64 (j : Nat)))], h, [], []⟩ = some (.normal, ⟨fr, h, [], []⟩) ∧
      keepF (masks 110) fr = [(0, s), (2, .fn (.func 111) [] []), (4, .ptr bid 0 0 [] 0), (8, .v (.int .i64 (l.length : Nat))), (9, .v (.int .i64 (i' : Nat))), (10, .v (.int .i64 (j' : Nat)))] ∧
      ((∃ r, l[(i + j) / 2]? = some r ∧ cmpAt p r < 0 ∧ i' = (i + j) / 2 + 1 ∧ j' = j) ∨ (∃ r, l[(i + j) / 2]? = some r ∧ ¬ cmpAt p r < 0 ∧ i' = i ∧ j' = (i + j) / 2)) := by
  have hm : (i + j) / 2 < l.length := by omega
  obtain ⟨r, hr⟩ : ∃ r, l[(i + j) / 2]? = some r := ⟨_, List.getElem?_eq_getElem hm⟩
  have hro := hok r (List.mem_of_getElem? hr)
  obtain ⟨a, ha1, ha2⟩ := sv.at hr
  have hd : (i : Int) < j := by omega
  have w := half (i := i) (j := j) (by omega)
  have w3 := wrapN1 (n := (i + j) / 2) (by omega)
  have k := c111 n h r p hro.1.1 hp
  have hlr : AM.leafs r.av = 20 := Route.leafs hro
  have har : isAggA r.av = true := rfl
  have hlp : AM.leafs p.av = 18 := by simp [Pre.av, AM.leafs, leafsL, leafs_bytes, hp]
  have hap : isAggA p.av = true := rfl
  by_cases hc : cmpAt p r < 0
  · have hb : decide (cmpAt p r < 0) = true := decide_eq_true hc
    have : ∃ fr, exec E (call E (n + 503)) (n + 503) 110 49 h0.length (loopB Tryz.f110 0) ⟨[(0, s), (2, .fn (.func 111) [] []), (4, .ptr bid 0 0 [] 0), (8, .v (.int .i64 (l.length : Nat))), (9, .v (.int .i64 (i : Nat))), (10, .v (.int .i64 (j : Nat)))], h, [], []⟩ = some (.normal, ⟨fr, h, [], []⟩) ∧
      keepF (masks 110) fr = [(0, s), (2, .fn (.func 111) [] []), (4, .ptr bid 0 0 [] 0), (8, .v (.int .i64 (l.length : Nat))), (9, .v (.int .i64 (((i + j) / 2 + 1 : Nat) : Int))), (10, .v (.int .i64 (j : Nat)))] := by
      rw [exec_code]
      simp -implicitDefEqProofs only [simA, Nat.reduceAdd, Nat.reduceLT, Nat.reduceEqDiff, Nat.reduceLeDiff, Nat.reduceMul, Int.reduceBEq, Int.reduceBNe, Int.reduceLT, Int.reduceLE, Int.reduceAdd, Int.reduceSub, Int.reduceMul, Int.reduceNeg, Nat.reduceSub, Nat.reducePow, Nat.reduceDiv, Nat.reduceMod, ln_36, cv_3_122, cv_122_3, prs_110_5, und_36, sz_58, agg_58, sz_55, agg_55, prs_110_8, keep_110, E_masks, masks, rows_110, Tryz.f110, hd, bin_shr (y := 1) (by omega), w, w3, ha1, ha2, hlr, har, hbx, hlp, hap, k, hb, pairsOK, clsOf, compat]
      exact ⟨_, rfl, rfl⟩
    obtain ⟨fr, e1, e2⟩ := this
    exact ⟨fr, _, _, e1, e2, .inl ⟨r, hr, hc, rfl, rfl⟩⟩
  · have hb : decide (cmpAt p r < 0) = false := decide_eq_false hc
    have : ∃ fr, exec E (call E (n + 503)) (n + 503) 110 49 h0.length (loopB Tryz.f110 0) ⟨[(0, s), (2, .fn (.func 111) [] []), (4, .ptr bid 0 0 [] 0), (8, .v (.int .i64 (l.length : Nat))), (9, .v (.int .i64 (i : Nat))), (10, .v (.int .i64 (j : Nat)))], h, [], []⟩ = some (.normal, ⟨fr, h, [], []⟩) ∧
      keepF (masks 110) fr = [(0, s), (2, .fn (.func 111) [] []), (4, .ptr bid 0 0 [] 0), (8, .v (.int .i64 (l.length : Nat))), (9, .v (.int .i64 (i : Nat))), (10, .v (.int .i64 (((i + j) / 2 : Nat) : Int)))] := by
      rw [exec_code]
      simp -implicitDefEqProofs only [simA, Nat.reduceAdd, Nat.reduceLT, Nat.reduceEqDiff, Nat.reduceLeDiff, Nat.reduceMul, Int.reduceBEq, Int.reduceBNe, Int.reduceLT, Int.reduceLE, Int.reduceAdd, Int.reduceSub, Int.reduceMul, Int.reduceNeg, Nat.reduceSub, Nat.reducePow, Nat.reduceDiv, Nat.reduceMod, ln_36, cv_3_122, cv_122_3, prs_110_5, und_36, sz_58, agg_58, sz_55, agg_55, prs_110_8, keep_110, E_masks, masks, rows_110, Tryz.f110, hd, bin_shr (y := 1) (by omega), w, w3, ha1, ha2, hlr, har, hbx, hlp, hap, k, hb, pairsOK, clsOf, compat]
      exact ⟨_, rfl, rfl⟩
    obtain ⟨fr, e1, e2⟩ := this
    exact ⟨fr, _, _, e1, e2, .inr ⟨r, hr, hc, rfl, rfl⟩⟩

theorem loop110 (n : Nat) (h0 h : Heap) (s : AV) (l : List Route) (p : Pre) (sv : RV h s l) (hok : ∀ r ∈ l, r.ok) (hp : p.ad.length = 16) (bid : Nat) (hbx : h[bid]? = some (.row 18 0 [p.av] ⟨true, 55⟩)) (hl : l.length < 490) (hs : Sorted l) : ∀ (d i j m : Nat) (fr : FR), j - i ≤ d → i ≤ j → j ≤ l.length → d < m →
    (∀ k, k < i → ∀ r, l[k]? = some r → cmpAt p r < 0) → (∀ k, j ≤ k → ∀ r, l[k]? = some r → ¬ cmpAt p r < 0) →
    keepF (masks 110) fr = [(0, s), (2, .fn (.func 111) [] []), (4, .ptr bid 0 0 [] 0), (8, .v (.int .i64 (l.length : Nat))), (9, .v (.int .i64 (i : Nat))), (10, .v (.int .i64 (j : Nat)))] →
    ∃ fr', loopN (exec E (call E (n + 503)) (n + 503) 110 49 h0.length (loopB Tryz.f110 0)) (masks 110) m ⟨fr, h, [], []⟩ = some (.exit 0, ⟨fr', h, [], []⟩) ∧ AM.get fr' 0 = some s ∧ AM.get fr' 2 = some (.fn (.func 111) [] []) ∧ AM.get fr' 4 = some (.ptr bid 0 0 [] 0) ∧ AM.get fr' 8 = some (.v (.int .i64 (l.length : Nat))) ∧ AM.get fr' 9 = some (.v (.int .i64 (pos l p : Nat))) := by
  intro d
  induction d with
  | zero =>
    intro i j m fr hd hij hj hm h1 h2 hk
    obtain ⟨m, rfl⟩ : ∃ q, m = q + 1 := ⟨m - 1, by omega⟩
    have hij' : i = j := by omega
    subst hij'
    have hno : ¬ ((i : Int) < (i : Int)) := by omega
    have hpos : pos l p = i := pos_eq hj h1 (h2 i (Nat.le_refl _))
    have he : ∃ fr', exec E (call E (n + 503)) (n + 503) 110 49 h0.length (loopB Tryz.f110 0) ⟨[(0, s), (2, .fn (.func 111) [] []), (4, .ptr bid 0 0 [] 0), (8, .v (.int .i64 (l.length : Nat))), (9, .v (.int .i64 (i : Nat))), (10, .v (.int .i64 (i : Nat)))], h, [], []⟩ = some (.exit 0, ⟨fr', h, [], []⟩) ∧ AM.get fr' 0 = some s ∧ AM.get fr' 2 = some (.fn (.func 111) [] []) ∧ AM.get fr' 4 = some (.ptr bid 0 0 [] 0) ∧ AM.get fr' 8 = some (.v (.int .i64 (l.length : Nat))) ∧ AM.get fr' 9 = some (.v (.int .i64 (i : Nat))) := by
      rw [exec_code]
      simp -implicitDefEqProofs only [simA, Nat.reduceAdd, Nat.reduceLT, Nat.reduceEqDiff, Nat.reduceLeDiff, Nat.reduceMul, Int.reduceBEq, Int.reduceBNe, Int.reduceLT, Int.reduceLE, Int.reduceAdd, Int.reduceSub, Int.reduceMul, Int.reduceNeg, Nat.reduceSub, Nat.reducePow, Nat.reduceDiv, Nat.reduceMod, ln_36, cv_3_122, cv_122_3, prs_110_5, und_36, sz_58, agg_58, sz_55, agg_55, prs_110_8, keep_110, E_masks, masks, rows_110, Tryz.f110, hno]
      exact ⟨_, rfl, rfl, rfl, rfl, rfl, rfl⟩
    obtain ⟨fr', e1, e2⟩ := he
    rw [hpos]
    exact ⟨fr', loopN_outK hk e1, e2⟩
  | succ d ih =>
    intro i j m fr hd hij hj hm h1 h2 hk
    obtain ⟨m, rfl⟩ : ∃ q, m = q + 1 := ⟨m - 1, by omega⟩
    by_cases hlt : i < j
    · obtain ⟨fr1, i', j', e1, e2, hcase⟩ := round110 n h0 h s l p sv hok hp bid hbx i j hlt hj hl
      rw [loopN_stepK hk e1]
      have mono : ∀ (a b : Nat) (x y : Route), a < b → l[a]? = some x → l[b]? = some y → cmpP x.to y.to < 0 := fun a b x y hab hx hy => by
        have ha := (List.getElem?_eq_some_iff.1 hx)
        have hb := (List.getElem?_eq_some_iff.1 hy)
        have := List.pairwise_iff_getElem.1 hs a b ha.1 hb.1 hab
        rw [ha.2, hb.2] at this
        exact this
      rcases hcase with ⟨r, hr, hc, rfl, rfl⟩ | ⟨r, hr, hc, rfl, rfl⟩
      · refine ih _ _ m fr1 (by omega) (by omega) hj (by omega) (fun k hk' r' hr' => ?_) h2 e2
        by_cases hkm : k = (i + j') / 2
        · subst hkm; rw [hr] at hr'; injection hr' with hr'; subst hr'; exact hc
        · have h3 := mono k _ r' r (by omega) hr' hr
          unfold cmpAt at hc ⊢
          have o1 := (hok r (List.mem_of_getElem? hr)).1.1
          have o2 := (hok r' (List.mem_of_getElem? hr')).1.1
          rw [cmpP_lex o2 o1] at h3
          rw [cmpP_lex o1 hp] at hc
          rw [cmpP_lex o2 hp]
          exact lexI_lt h3 hc
      · refine ih _ _ m fr1 (by omega) (by omega) (by omega) (by omega) h1 (fun k hk' r' hr' => ?_) e2
        by_cases hkm : k = (i' + j) / 2
        · subst hkm; rw [hr] at hr'; injection hr' with hr'; subst hr'; exact hc
        · have h3 := mono _ k r r' (by omega) hr hr'
          unfold cmpAt at hc ⊢
          have o1 := (hok r (List.mem_of_getElem? hr)).1.1
          have o2 := (hok r' (List.mem_of_getElem? hr')).1.1
          rw [cmpP_lex o1 o2] at h3
          rw [cmpP_lex o1 hp] at hc
          rw [cmpP_lex o2 hp]
          intro h4
          exact hc (lexI_lt h3 h4)
    · exact ih i j (m + 1) fr (by omega) hij hj (by omega) h1 h2 hk

theorem c110 (n : Nat) (h : Heap) (s : AV) (l : List Route) (p : Pre) (sv : RV h s l) (hok : ∀ r ∈ l, r.ok) (hp : p.ok) (hl : l.length < 490) (hs : Sorted l) :
    call E (n + 504) 110 [s, p.av, .fn (.func 111) [] []] h = some (.tup [.v (.int .i64 (pos l p : Nat)), .v (.bool (has l p))], h, ⟨[], [], true⟩) := by
  have hlp : AM.leafs p.av = 18 := Pre.leafs hp
  have hap : isAggA p.av = true := rfl
  have htp : isTupA p.av = false := rfl
  have hlen := sv.len
  have sv' : RV (h ++ [.row 18 0 [p.av] ⟨true, 55⟩]) s l := sv.push _
  obtain ⟨fr', g1, g2, g3, g4, g5, g6⟩ := loop110 n h (h ++ [.row 18 0 [p.av] ⟨true, 55⟩]) s l p sv' hok hp.1 h.length (by rw [end0]; rfl) hl hs l.length 0 l.length (n + 503)
    [(0, s), (2, .fn (.func 111) [] []), (4, .ptr h.length 0 0 [] 0), (8, .v (.int .i64 (l.length : Nat))), (9, .v (.int .i64 (0 : Nat))), (10, .v (.int .i64 (l.length : Nat)))] (by omega) (by omega) (by omega) (by omega) (fun k hk => by omega) (fun k hk r hr => by rw [List.getElem?_eq_none hk] at hr; cases hr) rfl
  simp -implicitDefEqProofs only [simA, Nat.reduceAdd, Nat.reduceLT, Nat.reduceEqDiff, Nat.reduceLeDiff, Nat.reduceMul, Int.reduceBEq, Int.reduceBNe, Int.reduceLT, Int.reduceLE, Int.reduceAdd, Int.reduceSub, Int.reduceMul, Int.reduceNeg, Nat.reduceSub, Nat.reducePow, Nat.reduceDiv, Nat.reduceMod, ln_36, cv_3_122, cv_122_3, prs_110_5, und_36, sz_58, agg_58, sz_55, agg_55, prs_110_8, keep_110, E_masks, masks, rows_110, Tryz.f110] at g1
  rw [call_at (E := E) (f := 110) (fn := Tryz.f110) rfl Tryz.func110 rfl (Nat.le_of_ble_eq_true rfl)]
  cases hr : l[pos l p]? with
  | none =>
    have hlt : ¬ ((pos l p : Nat) : Int) < (l.length : Int) := by
      have := List.getElem?_eq_none_iff.1 hr
      omega
    have hh : has l p = false := by simp [has, hr]
    simp -implicitDefEqProofs only [simA, Nat.reduceAdd, Nat.reduceLT, Nat.reduceEqDiff, Nat.reduceLeDiff, Nat.reduceMul, Int.reduceBEq, Int.reduceBNe, Int.reduceLT, Int.reduceLE, Int.reduceAdd, Int.reduceSub, Int.reduceMul, Int.reduceNeg, Nat.reduceSub, Nat.reducePow, Nat.reduceDiv, Nat.reduceMod, ln_36, cv_3_122, cv_122_3, prs_110_5, und_36, sz_58, agg_58, sz_55, agg_55, prs_110_8, keep_110, E_masks, masks, rows_110, Tryz.f110, hlp, hap, htp, hlen, g1, g2, g3, g4, g5, g6, hlt, pairsOK, clsOf, compat]
    simp [hh]
  | some r =>
    have hlt : ((pos l p : Nat) : Int) < (l.length : Int) := by
      have := (List.getElem?_eq_some_iff.1 hr).1
      omega
    have hro := hok r (List.mem_of_getElem? hr)
    obtain ⟨a, ha1, ha2⟩ := sv'.at hr
    have hlr : AM.leafs r.av = 20 := Route.leafs hro
    have har : isAggA r.av = true := rfl
    have k := c111 n (h ++ [.row 18 0 [p.av] ⟨true, 55⟩]) r p hro.1.1 hp.1
    have hh : has l p = decide (cmpAt p r = 0) := by simp [has, hr]
    by_cases hz : cmpAt p r = 0
    · have hb : (cmpAt p r == 0) = true := by simp [hz]
      simp -implicitDefEqProofs only [simA, Nat.reduceAdd, Nat.reduceLT, Nat.reduceEqDiff, Nat.reduceLeDiff, Nat.reduceMul, Int.reduceBEq, Int.reduceBNe, Int.reduceLT, Int.reduceLE, Int.reduceAdd, Int.reduceSub, Int.reduceMul, Int.reduceNeg, Nat.reduceSub, Nat.reducePow, Nat.reduceDiv, Nat.reduceMod, ln_36, cv_3_122, cv_122_3, prs_110_5, und_36, sz_58, agg_58, sz_55, agg_55, prs_110_8, keep_110, E_masks, masks, rows_110, Tryz.f110, hlp, hap, htp, hlen, g1, g2, g3, g4, g5, g6, hlt, ha1, ha2, hlr, har, k, hb, pairsOK, clsOf, compat]
      simp [hh, hz]
    · have hb : (cmpAt p r == 0) = false := by simp [hz]
      simp -implicitDefEqProofs only [simA, Nat.reduceAdd, Nat.reduceLT, Nat.reduceEqDiff, Nat.reduceLeDiff, Nat.reduceMul, Int.reduceBEq, Int.reduceBNe, Int.reduceLT, Int.reduceLE, Int.reduceAdd, Int.reduceSub, Int.reduceMul, Int.reduceNeg, Nat.reduceSub, Nat.reducePow, Nat.reduceDiv, Nat.reduceMod, ln_36, cv_3_122, cv_122_3, prs_110_5, und_36, sz_58, agg_58, sz_55, agg_55, prs_110_8, keep_110, E_masks, masks, rows_110, Tryz.f110, hlp, hap, htp, hlen, g1, g2, g3, g4, g5, g6, hlt, ha1, ha2, hlr, har, k, hb, pairsOK, clsOf, compat]
      simp [hh, hz]

/-- A table's pointer leads to its routes. -/
def TP (h : Heap) (t : AV) (s : AV) : Prop := ∃ tid, t = .ptr tid 0 0 [] 0 ∧ h[tid]? = some (.row 1 0 [.agg [s]] ⟨true, 99⟩)

theorem c89 (n : Nat) (h : Heap) (tid : Nat) (s : AV) (l : List Route) (p : Pre) (ht : h[tid]? = some (.row 1 0 [.agg [s]] ⟨true, 99⟩)) (sv : RV h s l) (hok : ∀ r ∈ l, r.ok) (hp : p.ok) (hl : l.length < 490) (hs : Sorted l) :
    call E (n + 505) 89 [.ptr tid 0 0 [] 0, p.av] h = some (.tup [.v (.int .i64 (pos l p : Nat)), .v (.bool (has l p))], h, ⟨[], [], true⟩) := by
  have hlp : AM.leafs p.av = 18 := Pre.leafs hp
  have hap : isAggA p.av = true := rfl
  have htp : isTupA p.av = false := rfl
  have hls := sliceLen_one sv.len
  have ht' : (h ++ [.row 18 0 [p.av] ⟨true, 55⟩])[tid]? = some (.row 1 0 [.agg [s]] ⟨true, 99⟩) := by
    rw [List.getElem?_append_left (List.getElem?_eq_some_iff.1 ht).1]; exact ht
  have k := c110 n (h ++ [.row 18 0 [p.av] ⟨true, 55⟩]) s l p (sv.push _) hok hp hl hs
  rw [call_at (E := E) (f := 89) (fn := Tryz.f89) rfl Tryz.func89 rfl (Nat.le_of_ble_eq_true rfl)]
  simp -implicitDefEqProofs only [simA, Nat.reduceAdd, Nat.reduceLT, Nat.reduceEqDiff, Nat.reduceLeDiff, Nat.reduceMul, Int.reduceBEq, Int.reduceBNe, Int.reduceLT, Int.reduceLE, Int.reduceAdd, Int.reduceSub, Int.reduceMul, Int.reduceNeg, Nat.reduceSub, Nat.reducePow, Nat.reduceDiv, Nat.reduceMod, pe_37, pn_37, ps_37, pz_37, py_37, prs_89_3, fo_99_0, sz_36, agg_36, sz_55, agg_55, keep_89, E_masks, masks, rows_89, Tryz.f89, hlp, hap, htp, hls.1, hls.2, ht', k, pairsOK, clsOf, compat]
  try rfl

end Go.Proofs.YtobdjegooonklaaGreat

set_option linter.unusedSimpArgs false
set_option linter.unusedVariables false
set_option maxRecDepth 100000
namespace Go.Proofs.YtobdjegooonklaaGreat
open Go Go.AM

/-- A table's slice: its row is no older than n0. -/
def View (n0 tid : Nat) (h : Heap) (s : AV) (l : List Route) : Prop := (s = nilS ∧ l = []) ∨ (s = .lit 20 true [] ∧ l = []) ∨
  ∃ rid g els fl, s = .sl rid g 0 l.length ∧ n0 ≤ rid ∧ rid ≠ tid ∧ h[rid]? = some (.row 20 g els ⟨fl, 58⟩) ∧ els.take l.length = l.map Route.av
theorem View.rv {n0 tid : Nat} {h : Heap} {s : AV} {l : List Route} (v : View n0 tid h s l) : RV h s l := by
  rcases v with ⟨rfl, rfl⟩ | ⟨rfl, rfl⟩ | ⟨rid, g, els, fl, h1, h2, h3, h4, h5⟩
  · exact .inl ⟨rfl, rfl⟩
  · exact .inr (.inl ⟨true, rfl⟩)
  · exact .inr (.inr ⟨rid, g, els, ⟨fl, 58⟩, h1, h4, h5⟩)
/-- The row over which a slice lies. -/
def Over (s : AV) (j : Nat) : Prop := ∃ g len, s = .sl j g 0 len
theorem View.stay {n0 tid : Nat} {h h' : Heap} {s : AV} {l : List Route} (v : View n0 tid h s l) (hh : ∀ j, j < h.length → Over s j → h'[j]? = h[j]?) : View n0 tid h' s l := by
  rcases v with v | v | ⟨rid, g, els, fl, h1, h2, h3, h4, h5⟩
  · exact .inl v
  · exact .inr (.inl v)
  · exact .inr (.inr ⟨rid, g, els, fl, h1, h2, h3, by rw [hh rid (lt_of_getElem? h4) ⟨_, _, h1⟩]; exact h4, h5⟩)
theorem View.push {n0 tid : Nat} {h : Heap} {s : AV} {l : List Route} (v : View n0 tid h s l) (k : Heap) : View n0 tid (h ++ k) s l := v.stay fun j hj _ => List.getElem?_append_left hj

def insAt (l : List Route) (i : Nat) (r : Route) : List Route := l.take i ++ r :: l.drop i

theorem idfree_route (r : Route) : idfree r.av = true := by
  simp [Route.av, Pre.av, idfree, idfreeL, Zfu]

theorem c113 (n : Nat) (h : Heap) (n0 tid : Nat) (s : AV) (l : List Route) (i : Nat) (r : Route) (vid vg : Nat) (exv : Tag) (v : View n0 tid h s l) (hn0 : n0 ≤ h.length) (htid : tid < h.length) (hv : h[vid]? = some (.row 20 vg [r.av] exv)) (hne : ¬ Over s vid) (hi : i ≤ l.length) (hl : l.length < 490) :
    ∃ s' h' ds, call E (n + 1) 113 [s, .v (.int .i64 (i : Nat)), .sl vid vg 0 1] h = some (s', h', ⟨ds, [], false⟩) ∧
      (∃ rid g els fl, s' = .sl rid g 0 (l.length + 1) ∧ n0 ≤ rid ∧ rid ≠ tid ∧ h'[rid]? = some (.row 20 g els ⟨fl, 58⟩) ∧ els.take (l.length + 1) = (insAt l i r).map Route.av) ∧
      (∀ j, j < h.length → ¬ Over s j → h'[j]? = h[j]?) ∧ h.length ≤ h'.length ∧ (∀ d ∈ ds, n0 ≤ d ∧ d ≠ tid) := by
  have hcall : ∀ args, call E (n + 1) 113 args h = Early.ovIns args h := fun _ => rfl
  rw [hcall]
  rcases v with ⟨rfl, rfl⟩ | ⟨rfl, rfl⟩ | ⟨rid, g, els, fl, rfl, h2, h3, h4, h5⟩
  · have hi0 : i = 0 := by simpa using hi
    subst hi0
    have e1 : call E0 300 113 [nilS, vInt 0, .sl vid vg 0 1] h = _ := Early.end_nil 299 h r.av vid vg exv hv
    have hov : Early.ovIns [nilS, .v (.int .i64 ((0 : Nat) : Int)), .sl vid vg 0 1] h = call E0 300 113 [nilS, vInt 0, .sl vid vg 0 1] h := rfl
    rw [hov]
    refine ⟨_, _, [], e1, ⟨h.length, 0, [r.av], false, rfl, hn0, by omega, by simp, rfl⟩, fun j hj _ => List.getElem?_append_left hj, by simp, (fun d hd => nomatch hd)⟩
  · have hi0 : i = 0 := by simpa using hi
    subst hi0
    have e1 : call E0 300 113 [.lit 20 true [], vInt 0, .sl vid vg 0 1] h = _ := Early.end_lit 299 h r.av vid vg exv hv
    have hov : Early.ovIns [.lit 20 true [], .v (.int .i64 ((0 : Nat) : Int)), .sl vid vg 0 1] h = call E0 300 113 [.lit 20 true [], vInt 0, .sl vid vg 0 1] h := rfl
    rw [hov]
    refine ⟨_, _, [], e1, ⟨h.length, 0, [r.av], false, rfl, hn0, by omega, by simp, rfl⟩, fun j hj _ => List.getElem?_append_left hj, by simp, (fun d hd => nomatch hd)⟩
  · have hrid := lt_of_getElem? h4
    have hle : l.length ≤ els.length := by
      have := congrArg List.length h5
      simp at this
      omega
    have hno : ∀ j, ¬ Over (.sl rid g 0 l.length) j → j ≠ rid := fun j hj e => hj ⟨g, l.length, by rw [e]⟩
    have hms : l.length < mostSeq := by unfold mostSeq; omega
    by_cases hend : i = l.length
    · subst hend
      obtain ⟨g2, els2, fl2, e1, e2⟩ := Early.end_sl 299 h r.av rid g vid vg l.length els fl exv h4 hv hle hms (idfree_route r)
      have hov : Early.ovIns [.sl rid g 0 l.length, .v (.int .i64 (l.length : Nat)), .sl vid vg 0 1] h = call E0 300 113 [.sl rid g 0 l.length, vInt l.length, .sl vid vg 0 1] h := by
        have hd : decide (((l.length : Nat) : Int) < (l.length : Int)) = false := by simp
        show (bif decide ((0 : Int) ≤ ((l.length : Nat) : Int)) && decide (((l.length : Nat) : Int) < (l.length : Int)) then _ else call E0 300 113 _ h) = call E0 300 113 _ h
        rw [hd, Bool.and_false, cond_false]
        rfl
      rw [hov]
      refine ⟨_, _, [rid], e1, ⟨rid, g2, els2, fl2, rfl, h2, h3, List.getElem?_set_self hrid, ?_⟩, fun j hj hj2 => List.getElem?_set_ne (Ne.symm (hno j hj2)), by simp, fun d hd => ?_⟩
      · rw [e2, h5]
        simp [insAt]
      · rw [List.mem_singleton.1 hd]; exact ⟨h2, h3⟩
    · have hlt : i < l.length := by omega
      have hov : Early.ovIns [.sl rid g 0 l.length, .v (.int .i64 (i : Nat)), .sl vid vg 0 1] h = some (.sl rid (g + 1) 0 (l.length + 1), h.set rid (.row 20 (g + 1) ((els.take l.length).take i ++ r.av :: (els.take l.length).drop i) ⟨false, 58⟩), ⟨[rid], [], false⟩) := by
        have hd : decide (((i : Nat) : Int) < (l.length : Int)) = true := by simp; omega
        have hd0 : decide ((0 : Int) ≤ ((i : Nat) : Int)) = true := by simp
        have hvr : Nat.beq rid vid = false := by
          rw [beqE]; exact decide_eq_false (fun e => hno vid hne e.symm)
        have b0 : (decide ((0 : Int) ≤ ((i : Nat) : Int)) && decide (((i : Nat) : Int) < (l.length : Int))) = true := by rw [hd, hd0]; rfl
        have b1 : (Nat.beq g g && (Nat.beq vg vg && (!(Nat.beq rid vid) && (Nat.beq 20 20 && (Nat.beq 20 20 && (Nat.ble l.length els.length && (Nat.blt l.length mostSeq && (Nat.beq 58 58 && idfree r.av)))))))) = true := by
          have hb7 : Nat.blt l.length mostSeq = true := Nat.ble_eq_true_of_le hms
          rw [hvr, Nat.ble_eq_true_of_le hle, hb7, idfree_route, Nat.beq_refl, Nat.beq_refl]
          rfl
        unfold Early.ovIns
        split
        · rename_i id' gen' len' i' vid' vg' heq
          simp only [List.cons.injEq, AV.sl.injEq, AV.v.injEq, Value.int.injEq, true_and, and_true] at heq
          obtain ⟨⟨rfl, rfl, rfl⟩, rfl, rfl, rfl⟩ := heq
          rw [b0, cond_true, h4, hv]
          dsimp only
          rw [b1, cond_true, Int.toNat_natCast]
        · rename_i hno
          exact (hno _ _ _ _ _ _ rfl).elim
      rw [hov]
      refine ⟨_, _, [rid], rfl, ⟨rid, g + 1, _, false, rfl, h2, h3, List.getElem?_set_self hrid, ?_⟩, fun j hj hj2 => List.getElem?_set_ne (Ne.symm (hno j hj2)), by simp, fun d hd => ?_⟩
      · rw [h5, List.take_of_length_le (by simp; omega)]
        simp [insAt, List.map_take, List.map_drop]
      · rw [List.mem_singleton.1 hd]; exact ⟨h2, h3⟩

theorem clear_of {h : Heap} {rid g k : Nat} {els : List AV} {ex : Tag} {ty : TypeId} (hr : h[rid]? = some (.row 20 g els ex)) (hk : k + 1 ≤ els.length) : builtinE E h .clear #[36] ty [.sl rid g k 1] = some (.tup [], h.set rid (.row 20 g (els.set k z58) ex), some (rid, false), .w) := by
  show clearE E h #[36] (.sl rid g k 1) = _
  have hz : E.zero 58 = some z58 := zero_58
  have hzl : leafs z58 = 20 := rfl
  simp [clearE, und_36, hr, hz, hzl, bleE, hk, setFrom, List.replicate]

theorem c112 (n : Nat) (h : Heap) (rid g len i : Nat) (els : List AV) (fl : Bool) (hr : h[rid]? = some (.row 20 g els ⟨fl, 58⟩)) (hle : len ≤ els.length) (hi : i < len) (hl : len < 490) (hx : idfreeL ((els.drop (i + 1)).take (len - (i + 1))) = true) :
    ∃ els2, call E (n + 1) 112 [.sl rid g 0 len, .v (.int .i64 (i : Nat)), .v (.int .i64 ((i + 1 : Nat) : Int))] h = some (.sl rid g 0 (len - 1), h.set rid (.row 20 g els2 ⟨fl, 58⟩), ⟨[rid], [], false⟩) ∧ els2.take (len - 1) = els.take i ++ (els.take len).drop (i + 1) := by
  have hid := lt_of_getElem? hr
  have w1 := wrapN1 (n := i) (by omega)
  have hne : (((i : Nat) : Int) == ((i + 1 : Nat) : Int)) = false := by simp; omega
  obtain ⟨y3, hs3⟩ : ∃ y, sliceE E.P h 36 (.sl rid g 0 len) (some (.v (.int .i64 (i : Nat)))) (some (.v (.int .i64 ((i + 1 : Nat) : Int)))) (some (.v (.int .i64 (len : Nat)))) = some y := by
    have h1 : ((len : Nat) : Int) ≤ els.length := by omega
    have h2 : ((i + 1 : Nat) : Int) ≤ (len : Nat) := by omega
    have h3 : ((i : Nat) : Int) ≤ ((i + 1 : Nat) : Int) := by omega
    have h4 : ((i : Nat) : Int) + 1 ≤ (len : Nat) := by omega
    have h5 : ((i : Nat) : Int) ≤ ((i : Nat) : Int) + 1 := by omega
    have h6 : (0 : Int) ≤ ((i : Nat) : Int) + 1 := by omega
    have hbq : Nat.beq i len = false := by rw [beqE]; exact decide_eq_false (by omega)
    exact ⟨.any, by simp [sliceE, und_36, sz_58, hr, bound, h1, h2, h3, h4, h5, h6, hbq]⟩
  have hs1 : sliceE E.P h 36 (.sl rid g 0 len) none (some (.v (.int .i64 (i : Nat)))) none = some (.sl rid g 0 i) := by
    have h1 : ((i : Nat) : Int) ≤ els.length := by omega
    simp [sliceE, und_36, sz_58, hr, bound, h1]
  have hs2 : sliceE E.P h 36 (.sl rid g 0 len) (some (.v (.int .i64 ((i + 1 : Nat) : Int)))) none none = some (.sl rid g (i + 1) (len - (i + 1))) := by
    have h1 : ((i + 1 : Nat) : Int) ≤ (len : Nat) := by omega
    have h2 : ((i : Nat) : Int) + 1 ≤ (len : Nat) := by omega
    have h6 : (0 : Int) ≤ ((i : Nat) : Int) + 1 := by omega
    simp [sliceE, und_36, sz_58, hr, bound, h1, h2, h6]
  obtain ⟨xs, hxs⟩ : ∃ xs, (els.drop (i + 1)).take (len - (i + 1)) = xs := ⟨_, rfl⟩
  rw [hxs] at hx
  have hxl : xs.length = len - (i + 1) := by rw [← hxs]; simp; omega
  have hsrc : srS h 20 (.sl rid g (i + 1) (len - (i + 1))) = some xs := by
    have : i + 1 + (len - (i + 1)) ≤ els.length := by omega
    rw [srS_sl]
    simp [elsOf, hr, bleE, this, hxs]
  have hby : (i + xs.length) * 48 ≤ 140737488355328 := by omega
  have hsum : i + xs.length = len - 1 := by omega
  have happ : appendTo h 58 20 (.sl rid g 0 i) xs = some (.sl rid g 0 (len - 1), h.set rid (.row 20 g (setFrom els i xs) ⟨fl, 58⟩), some (rid, false), .w) := by
    have h1 : i ≤ els.length := by omega
    have h2 : i + xs.length ≤ els.length := by omega
    simp [appendTo, hr, bleE, h1, h2, hx]
    omega
  have hsl : (setFrom els i xs).length = els.length := by rw [setFrom_length]
  have hr1 : (h.set rid (.row 20 g (setFrom els i xs) ⟨fl, 58⟩))[rid]? = some (.row 20 g (setFrom els i xs) ⟨fl, 58⟩) := List.getElem?_set_self hid
  have hs4 : sliceE E.P (h.set rid (.row 20 g (setFrom els i xs) ⟨fl, 58⟩)) 36 (.sl rid g 0 (len - 1)) (some (.v (.int .i64 ((len - 1 : Nat) : Int)))) (some (.v (.int .i64 (len : Nat)))) none = some (.sl rid g (len - 1) 1) := by
    have h1 : ((len : Nat) : Int) ≤ (setFrom els i xs).length := by omega
    have h2 : ((len - 1 : Nat) : Int) ≤ (len : Nat) := by omega
    have h3 : len - (len - 1) = 1 := by omega
    simp [sliceE, und_36, sz_58, hr1, bound, h1, h2, h3]
  have hcl := fun ty => clear_of (ty := ty) (k := len - 1) hr1 (by omega)
  have hins : ins rid [] = [rid] := rfl
  have hins2 : ins rid [rid] = [rid] := by simp [ins]
  have htk : ((setFrom els i xs).set (len - 1) z58).take (len - 1) = els.take i ++ (els.take len).drop (i + 1) := by
    rw [List.take_set_of_le (Nat.le_refl _)]
    have e1 : (els.take len).drop (i + 1) = xs := by rw [← hxs, List.drop_take]
    rw [e1]
    have e2 : els = els.take i ++ els.drop i := (List.take_append_drop i els).symm
    have e3 : (els.drop i) = (els.drop i).take xs.length ++ (els.drop i).drop xs.length := (List.take_append_drop _ _).symm
    have hsf : ∀ (ys a c d : List AV), c.length = ys.length → setFrom (a ++ (c ++ d)) a.length ys = a ++ (ys ++ d) := by
      intro ys
      induction ys with
      | nil => intro a c d hc; have : c = [] := List.eq_nil_of_length_eq_zero (by simpa using hc); subst this; simp [setFrom]
      | cons y ys ih =>
        intro a c d hc
        cases c with
        | nil => simp at hc
        | cons z c =>
          have := ih (a ++ [y]) c d (by simpa using hc)
          simp only [setFrom, List.cons_append]
          rw [List.set_append_right _ _ (Nat.le_refl _), Nat.sub_self, List.set_cons_zero]
          simpa using this
    have hil : (els.take i).length = i := by simp; omega
    have key := hsf xs (els.take i) ((els.drop i).take xs.length) ((els.drop i).drop xs.length) (by simp; omega)
    rw [← e3, ← e2, hil] at key
    rw [key, ← List.append_assoc]
    exact List.take_left' (by simp; omega)
  have hcall : call E (n + 1) 112 [.sl rid g 0 len, .v (.int .i64 (i : Nat)), .v (.int .i64 ((i + 1 : Nat) : Int))] h = some (.sl rid g 0 (len - 1), h.set rid (.row 20 g ((setFrom els i xs).set (len - 1) z58) ⟨fl, 58⟩), ⟨[rid], [], false⟩) := by
    rw [call_at (E := E) (f := 112) (fn := Tryz.f112) rfl Tryz.func112 rfl (Nat.le_of_ble_eq_true rfl)]
    simp -implicitDefEqProofs only [simA, Nat.reduceAdd, Nat.reduceLT, Nat.reduceEqDiff, Nat.reduceLeDiff, Nat.reduceMul, Int.reduceBEq, Int.reduceBNe, Int.reduceLT, Int.reduceLE, Int.reduceAdd, Int.reduceSub, Int.reduceMul, Int.reduceNeg, Nat.reduceSub, Nat.reducePow, Nat.reduceDiv, Nat.reduceMod, ln_36, und_36, sz_58, prs_112_5, ap_36_36, src_36, keep_112, E_masks, masks, rows_112, Tryz.f112, hs3, hne, hs1, hs2, hsrc, hby, happ, hs4, hcl, hid, hins, hins2, List.set_set, pairsOK, clsOf, compat]
  exact ⟨_, hcall, htk⟩

end Go.Proofs.YtobdjegooonklaaGreat

set_option linter.unusedSimpArgs false
set_option linter.unusedVariables false
set_option maxRecDepth 100000
set_option maxHeartbeats 1000000
namespace Go.Proofs.YtobdjegooonklaaGreat
open Go Go.AM

structure Tab (n0 : Nat) (h : Heap) (tid : Nat) (s : AV) (l : List Route) : Prop where
  row : h[tid]? = some (.row 1 0 [.agg [s]] ⟨true, 99⟩)
  lo : n0 ≤ tid
  view : View n0 tid h s l
  ok : ∀ r ∈ l, r.ok
  most : l.length < 490
  sorted : Sorted l

/-- What a call has left of a table. -/
def LeftT (n0 tid : Nat) (h h' : Heap) (l' : List Route) (ds ls : List Nat) : Prop := (∃ s', Tab n0 h' tid s' l') ∧ h.length ≤ h'.length ∧ (∀ j, j < n0 → h'[j]? = h[j]?) ∧ (∀ d ∈ ds, n0 ≤ d) ∧ (∀ d ∈ ls, n0 ≤ d)

theorem ge_ins {n0 a : Nat} {l : List Nat} (ha : n0 ≤ a) (hl : ∀ d ∈ l, n0 ≤ d) : ∀ d ∈ ins a l, n0 ≤ d := fun d hd => by
  rcases mem_ins.1 hd with rfl | hd
  · exact ha
  · exact hl d hd
theorem ge_merge {n0 m : Nat} : ∀ {r l : List Nat}, (∀ d ∈ r, n0 ≤ d) → (∀ d ∈ l, n0 ≤ d) → ∀ d ∈ mergeLt m r l, n0 ≤ d
  | [], l, _, hl => hl
  | a :: r, l, hr, hl => by
    simp only [mergeLt]
    refine ge_merge (fun d hd => hr d (List.mem_cons_of_mem _ hd)) ?_
    unfold insLt
    cases Nat.blt a m with
    | true => exact ge_ins (hr a (List.mem_cons_self ..)) hl
    | false => exact hl

theorem route_nav (r : Route) : nav r.av [0] 0 = some r.to.av := rfl

theorem put_bad (n : Nat) (h : Heap) (n0 tid : Nat) (s : AV) (l : List Route) (r : Route) (T : Tab n0 h tid s l) (hr : r.ok) (hbad : rightR r = false) :
    call E (n + 506) 91 [.ptr tid 0 0 [] 0, r.av] h = some (.v (.int .i64 1), h, ⟨[], [], true⟩) := by
  have hlr : AM.leafs r.av = 20 := Route.leafs hr
  have har : isAggA r.av = true := rfl
  have htr : isTupA r.av = false := rfl
  have hlp : AM.leafs r.to.av = 18 := Pre.leafs hr.1
  have hap : isAggA r.to.av = true := rfl
  have hT := lt_of_getElem? T.row
  have k1 := c89 n (h ++ [.row 20 0 [r.av] ⟨true, 58⟩]) tid s l r.to (by rw [List.getElem?_append_left hT]; exact T.row) (T.view.push _).rv T.ok hr.1 T.most T.sorted
  have k2 := fun m => c45 m (h ++ [.row 20 0 [r.av] ⟨true, 58⟩]) r hr
  rw [hbad] at k2
  rw [call_at (E := E) (f := 91) (fn := Tryz.f91) rfl Tryz.func91 rfl (Nat.le_of_ble_eq_true rfl)]
  simp -implicitDefEqProofs only [simA, Nat.reduceAdd, Nat.reduceLT, Nat.reduceEqDiff, Nat.reduceLeDiff, Nat.reduceMul, Int.reduceBEq, Int.reduceBNe, Int.reduceLT, Int.reduceLE, Int.reduceAdd, Int.reduceSub, Int.reduceMul, Int.reduceNeg, Nat.reduceSub, Nat.reducePow, Nat.reduceDiv, Nat.reduceMod, fo_58_0, sz_55, agg_55, pe_37, pn_37, ps_37, pz_37, py_37, sz_58, agg_58, prs_91_8, fo_99_0, sz_36, agg_36, und_36, ln_36, prs_91_2, bs_36_1_91, keep_91, E_masks, masks, rows_91, Tryz.f91, hlr, har, htr, hlp, hap, route_nav, k1, k2, pairsOK, clsOf, compat]

theorem put_full (n : Nat) (h : Heap) (n0 tid : Nat) (s : AV) (l : List Route) (r : Route) (T : Tab n0 h tid s l) (hr : r.ok) (hok : rightR r = true) (hhas : has l r.to = false) (hfull : 300 ≤ l.length) :
    call E (n + 506) 91 [.ptr tid 0 0 [] 0, r.av] h = some (.v (.int .i64 7), h, ⟨[], [], true⟩) := by
  have hlr : AM.leafs r.av = 20 := Route.leafs hr
  have har : isAggA r.av = true := rfl
  have htr : isTupA r.av = false := rfl
  have hlp : AM.leafs r.to.av = 18 := Pre.leafs hr.1
  have hap : isAggA r.to.av = true := rfl
  have hT := lt_of_getElem? T.row
  have hT' : (h ++ [.row 20 0 [r.av] ⟨true, 58⟩])[tid]? = some (.row 1 0 [.agg [s]] ⟨true, 99⟩) := by rw [List.getElem?_append_left hT]; exact T.row
  have hlen := T.view.rv.len
  have hls := sliceLen_one hlen
  have k1 := c89 n (h ++ [.row 20 0 [r.av] ⟨true, 58⟩]) tid s l r.to hT' (T.view.push _).rv T.ok hr.1 T.most T.sorted
  rw [hhas] at k1
  have k2 := fun m => c45 m (h ++ [.row 20 0 [r.av] ⟨true, 58⟩]) r hr
  rw [hok] at k2
  have hge : (300 : Int) ≤ ((l.length : Nat) : Int) := by omega
  rw [call_at (E := E) (f := 91) (fn := Tryz.f91) rfl Tryz.func91 rfl (Nat.le_of_ble_eq_true rfl)]
  simp -implicitDefEqProofs only [simA, Nat.reduceAdd, Nat.reduceLT, Nat.reduceEqDiff, Nat.reduceLeDiff, Nat.reduceMul, Int.reduceBEq, Int.reduceBNe, Int.reduceLT, Int.reduceLE, Int.reduceAdd, Int.reduceSub, Int.reduceMul, Int.reduceNeg, Nat.reduceSub, Nat.reducePow, Nat.reduceDiv, Nat.reduceMod, fo_58_0, sz_55, agg_55, pe_37, pn_37, ps_37, pz_37, py_37, sz_58, agg_58, prs_91_8, fo_99_0, sz_36, agg_36, und_36, ln_36, prs_91_2, bs_36_1_91, keep_91, E_masks, masks, rows_91, Tryz.f91, hlr, har, htr, hlp, hap, route_nav, k1, k2, hT', hlen, hls.1, hls.2, hge, pairsOK, clsOf, compat]

theorem sorted_set {l : List Route} {i : Nat} {r r' : Route} (hs : Sorted l) (hi : l[i]? = some r) (ht : r'.to = r.to) : Sorted (l.set i r') := by
  unfold Sorted at *
  rw [List.pairwise_iff_getElem] at hs ⊢
  intro a b ha hb hab
  have key : ∀ (k : Nat) (hk : k < (l.set i r').length), ((l.set i r')[k]).to = (l[k]'(by simpa using hk)).to := fun k hk => by
    by_cases hki : i = k
    · subst hki
      have h1 := (List.getElem?_eq_some_iff.1 hi)
      rw [List.getElem_set_self, ht, h1.2]
    · rw [List.getElem_set_ne hki]
  rw [key a ha, key b hb]
  exact hs a b (by simpa using ha) (by simpa using hb) hab

theorem has_some {l : List Route} {p : Pre} (hok : ∀ r ∈ l, r.ok) (hp : p.ok) (hh : has l p = true) : ∃ r, l[pos l p]? = some r ∧ r.to = p := by
  unfold has at hh
  cases hr : l[pos l p]? with
  | none => rw [hr] at hh; cases hh
  | some r =>
    rw [hr] at hh
    simp only [decide_eq_true_eq] at hh
    refine ⟨r, rfl, ?_⟩
    unfold cmpAt at hh
    rw [cmpP_lex (hok r (List.mem_of_getElem? hr)).1.1 hp.1] at hh
    exact Pre.key_inj (lexI_zero hh)

theorem put_there (n : Nat) (h : Heap) (n0 tid rid g : Nat) (els : List AV) (fl : Bool) (l : List Route) (r : Route) (T : Tab n0 h tid (.sl rid g 0 l.length) l) (hr : r.ok) (hok : rightR r = true) (hhas : has l r.to = true) (v3 : h[rid]? = some (.row 20 g els ⟨fl, 58⟩)) (v4 : els.take l.length = l.map Route.av) :
    call E (n + 506) 91 [.ptr tid 0 0 [] 0, r.av] h = some (.v (.int .i64 0), h.set rid (.row 20 g (els.set (pos l r.to) r.av) ⟨fl, 58⟩), ⟨[rid], [], false⟩) := by
  have hlr : AM.leafs r.av = 20 := Route.leafs hr
  have har : isAggA r.av = true := rfl
  have htr : isTupA r.av = false := rfl
  have hlp : AM.leafs r.to.av = 18 := Pre.leafs hr.1
  have hap : isAggA r.to.av = true := rfl
  have hT := lt_of_getElem? T.row
  have hT' : (h ++ [.row 20 0 [r.av] ⟨true, 58⟩])[tid]? = some (.row 1 0 [.agg [.sl rid g 0 l.length]] ⟨true, 99⟩) := by rw [List.getElem?_append_left hT]; exact T.row
  have hlen := T.view.rv.len
  have hls := sliceLen_one hlen
  have k1 := c89 n (h ++ [.row 20 0 [r.av] ⟨true, 58⟩]) tid _ l r.to hT' (T.view.push _).rv T.ok hr.1 T.most T.sorted
  rw [hhas] at k1
  have k2 := fun m => c45 m (h ++ [.row 20 0 [r.av] ⟨true, 58⟩]) r hr
  rw [hok] at k2
  obtain ⟨r0, hr0, hto⟩ := has_some T.ok hr.1 hhas
  have hpl := (List.getElem?_eq_some_iff.1 hr0).1
  have hR := lt_of_getElem? v3
  have hR' : (h ++ [.row 20 0 [r.av] ⟨true, 58⟩])[rid]? = some (.row 20 g els ⟨fl, 58⟩) := by rw [List.getElem?_append_left hR]; exact v3
  have hel : els[pos l r.to]? = some r0.av := by
    have := congrArg (·[pos l r.to]?) v4
    simp only [List.getElem?_take_of_lt hpl, List.getElem?_map, hr0, Option.map_some] at this
    exact this
  have hlr0 : AM.leafs r0.av = 20 := Route.leafs (T.ok r0 (List.mem_of_getElem? hr0))
  have hidx : indexAddrE E.P (h ++ [.row 20 0 [r.av] ⟨true, 58⟩]) 36 (.sl rid g 0 l.length) (.v (.int .i64 ((pos l r.to : Nat) : Int))) = some (.ptr rid g (pos l r.to) [] 0) := by
    have h2 : ((pos l r.to : Nat) : Int) < l.length := by omega
    simp [indexAddrE, und_36, sz_58, idx, h2, hR']
  have hst : storeE E.P (h ++ [.row 20 0 [r.av] ⟨true, 58⟩]) 58 (.ptr rid g (pos l r.to) [] 0) r.av = some ((h ++ [Row.row 20 0 [r.av] ⟨true, 58⟩]).set rid (.row 20 g (els.set (pos l r.to) r.av) ⟨fl, 58⟩), rid) := by
    have hp : put r0.av [] 0 r.av = some r.av := by unfold put; simp [hlr, hlr0]
    simp [storeE, sz_58, hR', hlr, htr, hel, hp]
  have hidf := idfree_route r
  have hset : ((h ++ [Row.row 20 0 [r.av] ⟨true, 58⟩]).set rid (.row 20 g (els.set (pos l r.to) r.av) ⟨fl, 58⟩)).take h.length = h.set rid (.row 20 g (els.set (pos l r.to) r.av) ⟨fl, 58⟩) := by
    rw [List.set_append_left _ _ hR, List.take_left' (by simp)]
  rw [call_at (E := E) (f := 91) (fn := Tryz.f91) rfl Tryz.func91 rfl (Nat.le_of_ble_eq_true rfl)]
  simp -implicitDefEqProofs only [simA, Nat.reduceAdd, Nat.reduceLT, Nat.reduceEqDiff, Nat.reduceLeDiff, Nat.reduceMul, Int.reduceBEq, Int.reduceBNe, Int.reduceLT, Int.reduceLE, Int.reduceAdd, Int.reduceSub, Int.reduceMul, Int.reduceNeg, Nat.reduceSub, Nat.reducePow, Nat.reduceDiv, Nat.reduceMod, fo_58_0, sz_55, agg_55, pe_37, pn_37, ps_37, pz_37, py_37, sz_58, agg_58, prs_91_8, fo_99_0, sz_36, agg_36, und_36, ln_36, prs_91_2, bs_36_1_91, keep_91, E_masks, masks, rows_91, Tryz.f91, hlr, har, htr, hlp, hap, route_nav, k1, k2, hT', hlen, hls.1, hls.2, hidx, hst, hidf, hR, pairsOK, clsOf, compat]
  rw [hset]

theorem left_there {h : Heap} {n0 tid rid g : Nat} {els : List AV} {fl : Bool} {l : List Route} {r : Route} (T : Tab n0 h tid (.sl rid g 0 l.length) l) (hr : r.ok) (hhas : has l r.to = true) (v1 : n0 ≤ rid) (v2 : rid ≠ tid) (v3 : h[rid]? = some (.row 20 g els ⟨fl, 58⟩)) (v4 : els.take l.length = l.map Route.av) :
    LeftT n0 tid h (h.set rid (.row 20 g (els.set (pos l r.to) r.av) ⟨fl, 58⟩)) (l.set (pos l r.to) r) [rid] [] := by
  obtain ⟨r0, hr0, hto⟩ := has_some T.ok hr.1 hhas
  have hR := lt_of_getElem? v3
  refine ⟨⟨.sl rid g 0 l.length, ?_, T.lo, ?_, ?_, ?_, ?_⟩, ?_, ?_, ?_, ?_⟩
  · rw [List.getElem?_set_ne v2]; exact T.row
  · refine .inr (.inr ⟨rid, g, _, fl, by simp, v1, v2, List.getElem?_set_self hR, ?_⟩)
    rw [List.length_set, List.take_set, v4, List.map_set]
  · intro q hq
    rcases List.mem_or_eq_of_mem_set hq with hq | rfl
    · exact T.ok q hq
    · exact hr
  · simpa using T.most
  · exact sorted_set T.sorted hr0 hto.symm
  · simp
  · intro j hj
    exact List.getElem?_set_ne (by omega)
  · intro d hd
    rw [List.mem_singleton.1 hd]; exact v1
  · intro d hd; cases hd

theorem cmpP_trans {p q r : Pre} (hp : p.ad.length = 16) (hq : q.ad.length = 16) (hr : r.ad.length = 16) (h1 : cmpP p q < 0) (h2 : cmpP q r < 0) : cmpP p r < 0 := by
  rw [cmpP_lex hp hq] at h1
  rw [cmpP_lex hq hr] at h2
  rw [cmpP_lex hp hr]
  exact lexI_lt h1 h2
theorem cmpP_neg {p q : Pre} (hp : p.ad.length = 16) (hq : q.ad.length = 16) : cmpP q p = - cmpP p q := by
  rw [cmpP_lex hp hq, cmpP_lex hq hp]
  exact lexI_neg _ _
theorem cmpP_zero {p q : Pre} (hp : p.ad.length = 16) (hq : q.ad.length = 16) (h : cmpP p q = 0) : p = q := by
  rw [cmpP_lex hp hq] at h
  exact Pre.key_inj (lexI_zero h)
theorem cmpP_self (p : Pre) (hp : p.ad.length = 16) : cmpP p p = 0 := by rw [cmpP_lex hp hp]; exact lexI_self _

theorem take_lt {l : List Route} {p : Pre} : ∀ x ∈ l.take (pos l p), cmpP x.to p < 0 := fun x hx => by
  obtain ⟨k, hk⟩ := List.getElem?_of_mem hx
  have hkl : k < pos l p := by
    have := (List.getElem?_eq_some_iff.1 hk).1
    simp at this
    omega
  rw [List.getElem?_take_of_lt hkl] at hk
  obtain ⟨r, h1, h2⟩ := pos_lt hkl
  rw [hk] at h1
  injection h1 with h1
  subst h1
  exact h2
theorem drop_gt {l : List Route} {p : Pre} (hs : Sorted l) (hok : ∀ r ∈ l, r.ok) (hp : p.ok) (hh : has l p = false) : ∀ y ∈ l.drop (pos l p), cmpP p y.to < 0 := by
  intro y hy
  cases h0 : l[pos l p]? with
  | none =>
    have := List.getElem?_eq_none_iff.1 h0
    rw [List.drop_eq_nil_of_le this] at hy
    cases hy
  | some r0 =>
    have hr0 := hok r0 (List.mem_of_getElem? h0)
    have hne : cmpP p r0.to < 0 := by
      have h1 := pos_at h0
      unfold cmpAt at h1
      have h2 : cmpP r0.to p ≠ 0 := by
        intro hz
        unfold has at hh
        rw [h0] at hh
        simp [cmpAt, hz] at hh
      have := cmpP_neg hr0.1.1 hp.1
      omega
    obtain ⟨hl, he⟩ := List.getElem?_eq_some_iff.1 h0
    rw [List.drop_eq_getElem_cons hl, he] at hy
    rcases List.mem_cons.1 hy with rfl | hy
    · exact hne
    · have hyl : y ∈ l := List.mem_of_mem_drop hy
      have h3 : cmpP r0.to y.to < 0 := by
        have hpw : (r0 :: l.drop (pos l p + 1)).Pairwise fun a b => cmpP a.to b.to < 0 := by
          rw [← he, ← List.drop_eq_getElem_cons hl]
          exact hs.sublist (List.drop_sublist _ _)
        exact (List.pairwise_cons.1 hpw).1 y hy
      exact cmpP_trans hp.1 hr0.1.1 (hok y hyl).1.1 hne h3

theorem sorted_ins {l : List Route} {r : Route} (hs : Sorted l) (hok : ∀ r ∈ l, r.ok) (hr : r.ok) (hh : has l r.to = false) : Sorted (insAt l (pos l r.to) r) := by
  unfold Sorted insAt
  rw [List.pairwise_append]
  refine ⟨hs.sublist (List.take_sublist _ _), List.pairwise_cons.2 ⟨drop_gt hs hok hr.1 hh, hs.sublist (List.drop_sublist _ _)⟩, fun a ha b hb => ?_⟩
  have h1 := take_lt a ha
  rcases List.mem_cons.1 hb with rfl | hb
  · exact h1
  · exact cmpP_trans (hok a (List.mem_of_mem_take ha)).1.1 hr.1.1 (hok b (List.mem_of_mem_drop hb)).1.1 h1 (drop_gt hs hok hr.1 hh b hb)
theorem ins_ok {l : List Route} {r : Route} {i : Nat} (hok : ∀ r ∈ l, r.ok) (hr : r.ok) : ∀ q ∈ insAt l i r, q.ok := fun q hq => by
  unfold insAt at hq
  rcases List.mem_append.1 hq with hq | hq
  · exact hok q (List.mem_of_mem_take hq)
  · rcases List.mem_cons.1 hq with rfl | hq
    · exact hr
    · exact hok q (List.mem_of_mem_drop hq)
theorem ins_len {l : List Route} {r : Route} {i : Nat} (hi : i ≤ l.length) : (insAt l i r).length = l.length + 1 := by simp [insAt]; omega

theorem put_new (n : Nat) (h : Heap) (n0 tid : Nat) (s : AV) (l : List Route) (r : Route) (T : Tab n0 h tid s l) (hr : r.ok) (hok : rightR r = true) (hhas : has l r.to = false) (hroom : l.length < 300) :
    ∃ h' ds, call E (n + 506) 91 [.ptr tid 0 0 [] 0, r.av] h = some (.v (.int .i64 0), h', ⟨ds, [tid], false⟩) ∧ LeftT n0 tid h h' (insAt l (pos l r.to) r) ds [tid] := by
  have hlr : AM.leafs r.av = 20 := Route.leafs hr
  have har : isAggA r.av = true := rfl
  have htr : isTupA r.av = false := rfl
  have hlp : AM.leafs r.to.av = 18 := Pre.leafs hr.1
  have hap : isAggA r.to.av = true := rfl
  have hT := lt_of_getElem? T.row
  have hT' : (h ++ [.row 20 0 [r.av] ⟨true, 58⟩])[tid]? = some (.row 1 0 [.agg [s]] ⟨true, 99⟩) := by rw [List.getElem?_append_left hT]; exact T.row
  have hlen := T.view.rv.len
  have hls := sliceLen_one hlen
  have k1 := c89 n (h ++ [.row 20 0 [r.av] ⟨true, 58⟩]) tid s l r.to hT' (T.view.push _).rv T.ok hr.1 T.most T.sorted
  rw [hhas] at k1
  have k2 := fun m => c45 m (h ++ [.row 20 0 [r.av] ⟨true, 58⟩]) r hr
  rw [hok] at k2
  have hge : ¬ (300 : Int) ≤ ((l.length : Nat) : Int) := by omega
  have hover : ¬ Over s tid := by
    rintro ⟨g, len, rfl⟩
    rcases T.view with ⟨h1, _⟩ | ⟨h1, _⟩ | ⟨rid, g', els, fl, h1, h2, h3, _⟩
    · cases h1
    · cases h1
    · injection h1 with h1
      exact h3 h1.symm
  have hover2 : ¬ Over s (h.length + 1) := by
    rintro ⟨g, len, rfl⟩
    rcases T.view with ⟨h1, _⟩ | ⟨h1, _⟩ | ⟨rid, g', els, fl, h1, h2, h3, h4, _⟩
    · cases h1
    · cases h1
    · injection h1 with h1
      have := lt_of_getElem? h4
      omega
  have hT2 : (h ++ [.row 20 0 [r.av] ⟨true, 58⟩, .row 20 0 [r.av] ⟨true, 58⟩])[tid]? = some (.row 1 0 [.agg [s]] ⟨true, 99⟩) := by rw [List.getElem?_append_left hT]; exact T.row
  have hpl := pos_le l r.to
  obtain ⟨s', h', ds, e1, ⟨rid', g', els', fl', rfl, a2, a3, a4, a5⟩, e3, e4, e5⟩ := c113 (n + 504) (h ++ [.row 20 0 [r.av] ⟨true, 58⟩, .row 20 0 [r.av] ⟨true, 58⟩]) n0 tid s l (pos l r.to) r (h.length + 1) 0 ⟨true, 58⟩ (T.view.push _) (by have := T.lo; simp; omega) (by simp; omega) (by rw [end1]; rfl) hover2 hpl T.most
  have hT3 : h'[tid]? = some (.row 1 0 [.agg [s]] ⟨true, 99⟩) := by rw [e3 tid (by simp; omega) hover]; exact hT2
  have hzl : leafsL (List.replicate 16 (AV.v (.int .u8 0))) = 16 := by kernel_rfl
  have hdec : decide (tid = h.length + 1) = false := decide_eq_false (by omega)
  have hst : storeE E.P h' 36 (.ptr tid 0 0 [0] 0) (.sl rid' g' 0 (l.length + 1)) = some (h'.set tid (.row 1 0 [.agg [.sl rid' g' 0 (l.length + 1)]] ⟨true, 99⟩), tid) := by
    have hp : put (.agg [s]) [0] 0 (.sl rid' g' 0 (l.length + 1)) = some (.agg [.sl rid' g' 0 (l.length + 1)]) := by
      unfold put
      unfold putL
      have : put s [] 0 (.sl rid' g' 0 (l.length + 1)) = some (.sl rid' g' 0 (l.length + 1)) := by
        unfold put
        simp [hls.1, AM.leafs]
      rw [this]
    simp [storeE, sz_36, hT3, AM.leafs, isTupA, hp]
  have hidf : idfree (.sl rid' g' 0 (l.length + 1)) = false := rfl
  have hT' := hT
  refine ⟨h'.set tid (.row 1 0 [.agg [.sl rid' g' 0 (l.length + 1)]] ⟨true, 99⟩), ins tid (mergeLt h.length ds []), ?_, ⟨.sl rid' g' 0 (l.length + 1), ?_, T.lo, ?_, ?_, ?_, ?_⟩, ?_, ?_, ?_, ?_⟩
  · rw [call_at (E := E) (f := 91) (fn := Tryz.f91) rfl Tryz.func91 rfl (Nat.le_of_ble_eq_true rfl)]
    simp -implicitDefEqProofs only [simA, Nat.reduceAdd, Nat.reduceLT, Nat.reduceEqDiff, Nat.reduceLeDiff, Nat.reduceMul, Int.reduceBEq, Int.reduceBNe, Int.reduceLT, Int.reduceLE, Int.reduceAdd, Int.reduceSub, Int.reduceMul, Int.reduceNeg, Nat.reduceSub, Nat.reducePow, Nat.reduceDiv, Nat.reduceMod, fo_58_0, sz_55, agg_55, pe_37, pn_37, ps_37, pz_37, py_37, sz_58, agg_58, prs_91_8, fo_99_0, sz_36, agg_36, und_36, ln_36, prs_91_2, bs_36_1_91, keep_91, E_masks, masks, rows_91, Tryz.f91, hlr, har, htr, hlp, hap, route_nav, k1, k2, ‹(h ++ [.row 20 0 [r.av] ⟨true, 58⟩])[tid]? = some (.row 1 0 [.agg [s]] ⟨true, 99⟩)›, hlen, hls.1, hls.2, hge, hzl, hdec, e1, hst, hidf, hT, pairsOK, clsOf, compat]
  · exact List.getElem?_set_self (by have := lt_of_getElem? hT3; exact this)
  · refine .inr (.inr ⟨rid', g', els', fl', by rw [ins_len hpl], a2, a3, by rw [List.getElem?_set_ne (Ne.symm a3)]; exact a4, by rw [ins_len hpl]; exact a5⟩)
  · exact ins_ok T.ok hr
  · rw [ins_len hpl]; omega
  · exact sorted_ins T.sorted T.ok hr hhas
  · simp at e4 ⊢; omega
  · intro j hj
    have hov : ¬ Over s j := by
      rintro ⟨g, len, rfl⟩
      rcases T.view with ⟨h1, _⟩ | ⟨h1, _⟩ | ⟨rid, g', els, fl, h1, h2, h3, h4, _⟩
      · cases h1
      · cases h1
      · injection h1 with h1
        omega
    have hlo := T.lo
    rw [List.getElem?_set_ne (by omega), e3 j (by simp; omega) hov, List.getElem?_append_left (by omega)]
  · exact ge_ins T.lo (ge_merge (fun d hd => (e5 d hd).1) (fun d hd => nomatch hd))
  · intro d hd
    rw [List.mem_singleton.1 hd]; exact T.lo

def delAt (l : List Route) (i : Nat) : List Route := l.take i ++ l.drop (i + 1)
theorem del_len {l : List Route} {i : Nat} (hi : i < l.length) : (delAt l i).length = l.length - 1 := by simp [delAt]; omega
theorem del_sub (l : List Route) (i : Nat) : (delAt l i).Sublist l := by
  unfold delAt
  conv => rhs; rw [← List.take_append_drop i l]
  refine List.Sublist.append_left ?_ _
  rw [← List.drop_drop]
  exact List.drop_sublist _ _

theorem idfreeL_routes (l : List Route) : idfreeL (l.map Route.av) = true := idfreeL_of fun x hx => by
  obtain ⟨r, _, rfl⟩ := List.mem_map.1 hx
  exact idfree_route r

theorem drop_none (n : Nat) (h : Heap) (n0 tid : Nat) (s : AV) (l : List Route) (p : Pre) (T : Tab n0 h tid s l) (hp : p.ok) (hhas : has l p = false) :
    call E (n + 506) 90 [.ptr tid 0 0 [] 0, p.av] h = some (.v (.int .i64 8), h, ⟨[], [], true⟩) := by
  have hlp : AM.leafs p.av = 18 := Pre.leafs hp
  have hap : isAggA p.av = true := rfl
  have htp : isTupA p.av = false := rfl
  have hT := lt_of_getElem? T.row
  have k1 := c89 n (h ++ [.row 18 0 [p.av] ⟨true, 55⟩]) tid s l p (by rw [List.getElem?_append_left hT]; exact T.row) (T.view.push _).rv T.ok hp T.most T.sorted
  rw [hhas] at k1
  rw [call_at (E := E) (f := 90) (fn := Tryz.f90) rfl Tryz.func90 rfl (Nat.le_of_ble_eq_true rfl)]
  simp -implicitDefEqProofs only [simA, Nat.reduceAdd, Nat.reduceLT, Nat.reduceEqDiff, Nat.reduceLeDiff, Nat.reduceMul, Int.reduceBEq, Int.reduceBNe, Int.reduceLT, Int.reduceLE, Int.reduceAdd, Int.reduceSub, Int.reduceMul, Int.reduceNeg, Nat.reduceSub, Nat.reducePow, Nat.reduceDiv, Nat.reduceMod, sz_55, agg_55, pe_37, pn_37, ps_37, pz_37, py_37, fo_99_0, sz_36, agg_36, keep_90, E_masks, masks, rows_90, Tryz.f90, hlp, hap, htp, k1, pairsOK, clsOf, compat]

theorem drop_there (n : Nat) (h : Heap) (n0 tid : Nat) (s : AV) (l : List Route) (p : Pre) (T : Tab n0 h tid s l) (hp : p.ok) (hhas : has l p = true) :
    ∃ h' ds, call E (n + 506) 90 [.ptr tid 0 0 [] 0, p.av] h = some (.v (.int .i64 0), h', ⟨ds, [tid], false⟩) ∧ LeftT n0 tid h h' (delAt l (pos l p)) ds [tid] := by
  have hlp : AM.leafs p.av = 18 := Pre.leafs hp
  have hap : isAggA p.av = true := rfl
  have htp : isTupA p.av = false := rfl
  have hT := lt_of_getElem? T.row
  have hT1 : (h ++ [.row 18 0 [p.av] ⟨true, 55⟩])[tid]? = some (.row 1 0 [.agg [s]] ⟨true, 99⟩) := by rw [List.getElem?_append_left hT]; exact T.row
  have hlen := T.view.rv.len
  have hls := sliceLen_one hlen
  have k1 := c89 n (h ++ [.row 18 0 [p.av] ⟨true, 55⟩]) tid s l p hT1 (T.view.push _).rv T.ok hp T.most T.sorted
  rw [hhas] at k1
  obtain ⟨r0, hr0, hto⟩ := has_some T.ok hp hhas
  have hpl := (List.getElem?_eq_some_iff.1 hr0).1
  have hmost := T.most
  rcases T.view with ⟨rfl, rfl⟩ | ⟨rfl, rfl⟩ | ⟨rid, g, els, fl, rfl, v1, v2, v3, v4⟩
  · simp at hr0
  · simp at hr0
  have hR := lt_of_getElem? v3
  have hR' : (h ++ [.row 18 0 [p.av] ⟨true, 55⟩])[rid]? = some (.row 20 g els ⟨fl, 58⟩) := by rw [List.getElem?_append_left hR]; exact v3
  have hle : l.length ≤ els.length := by
    have := congrArg List.length v4
    simp at this
    omega
  have hidf : idfreeL ((els.drop (pos l p + 1)).take (l.length - (pos l p + 1))) = true := by
    rw [← List.drop_take, v4]
    rw [← List.map_drop]
    exact idfreeL_routes _
  obtain ⟨els2, e1, e2⟩ := c112 (n + 504) (h ++ [.row 18 0 [p.av] ⟨true, 55⟩]) rid g l.length (pos l p) els fl hR' hle hpl T.most hidf
  have w1 := wrapN1 (n := pos l p) (by omega)
  have hT3 : ((h ++ [Row.row 18 0 [p.av] ⟨true, 55⟩]).set rid (.row 20 g els2 ⟨fl, 58⟩))[tid]? = some (.row 1 0 [.agg [.sl rid g 0 l.length]] ⟨true, 99⟩) := by rw [List.getElem?_set_ne v2]; exact hT1
  have hst : storeE E.P ((h ++ [Row.row 18 0 [p.av] ⟨true, 55⟩]).set rid (.row 20 g els2 ⟨fl, 58⟩)) 36 (.ptr tid 0 0 [0] 0) (.sl rid g 0 (l.length - 1)) = some (((h ++ [Row.row 18 0 [p.av] ⟨true, 55⟩]).set rid (.row 20 g els2 ⟨fl, 58⟩)).set tid (.row 1 0 [.agg [.sl rid g 0 (l.length - 1)]] ⟨true, 99⟩), tid) := by
    have hpt : put (.agg [.sl rid g 0 l.length]) [0] 0 (.sl rid g 0 (l.length - 1)) = some (.agg [.sl rid g 0 (l.length - 1)]) := by
      unfold put
      unfold putL
      have : put (.sl rid g 0 l.length) [] 0 (.sl rid g 0 (l.length - 1)) = some (.sl rid g 0 (l.length - 1)) := by
        unfold put
        simp [AM.leafs]
      rw [this]
    simp [storeE, sz_36, hT3, AM.leafs, isTupA, hpt]
  have hidf2 : idfree (.sl rid g 0 (l.length - 1)) = false := rfl
  have hins : ins rid [] = [rid] := rfl
  refine ⟨((h ++ [Row.row 18 0 [p.av] ⟨true, 55⟩]).set rid (.row 20 g els2 ⟨fl, 58⟩)).set tid (.row 1 0 [.agg [.sl rid g 0 (l.length - 1)]] ⟨true, 99⟩), ins tid [rid], ?_, ⟨.sl rid g 0 (l.length - 1), ?_, T.lo, ?_, ?_, ?_, ?_⟩, ?_, ?_, ?_, ?_⟩
  · rw [call_at (E := E) (f := 90) (fn := Tryz.f90) rfl Tryz.func90 rfl (Nat.le_of_ble_eq_true rfl)]
    simp -implicitDefEqProofs only [simA, Nat.reduceAdd, Nat.reduceLT, Nat.reduceEqDiff, Nat.reduceLeDiff, Nat.reduceMul, Int.reduceBEq, Int.reduceBNe, Int.reduceLT, Int.reduceLE, Int.reduceAdd, Int.reduceSub, Int.reduceMul, Int.reduceNeg, Nat.reduceSub, Nat.reducePow, Nat.reduceDiv, Nat.reduceMod, sz_55, agg_55, pe_37, pn_37, ps_37, pz_37, py_37, fo_99_0, sz_36, agg_36, keep_90, E_masks, masks, rows_90, Tryz.f90, hlp, hap, htp, k1, hT1, hls.1, hls.2, w1, e1, hst, hidf2, hT, hR, hins, pairsOK, clsOf, compat]
  · exact List.getElem?_set_self (by have := lt_of_getElem? hT3; exact this)
  · refine .inr (.inr ⟨rid, g, els2, fl, by rw [del_len hpl], v1, v2, ?_, ?_⟩)
    · rw [List.getElem?_set_ne (Ne.symm v2), List.getElem?_set_self (by simp; omega)]
    · rw [del_len hpl, e2, v4]
      have h1 : els.take (pos l p) = (l.take (pos l p)).map Route.av := by
        have := congrArg (List.take (pos l p)) v4
        rw [List.take_take, Nat.min_eq_left (by omega), ← List.map_take] at this
        exact this
      rw [h1, ← List.map_drop, ← List.map_append]
      rfl
  · exact fun q hq => T.ok q ((del_sub l _).subset hq)
  · rw [del_len hpl]; omega
  · exact T.sorted.sublist (del_sub l _)
  · simp
  · intro j hj
    have hlo := T.lo
    rw [List.getElem?_set_ne (by omega), List.getElem?_set_ne (by omega), List.getElem?_append_left (by omega)]
  · exact ge_ins T.lo (fun d hd => by rw [List.mem_singleton.1 hd]; exact v1)
  · intro d hd
    rw [List.mem_singleton.1 hd]; exact T.lo

end Go.Proofs.YtobdjegooonklaaGreat
