/- A table made of routes. Conditions: none. -/
import Derived.Test.YtobdjegooonklaaGreatAmTab4
set_option linter.unusedSimpArgs false
set_option linter.unusedVariables false
set_option maxRecDepth 100000
set_option maxHeartbeats 1000000
namespace Go.Proofs.YtobdjegooonklaaGreat
open Go Go.AM

theorem c44 (n : Nat) (h : Heap) (i : Route) (hi : i.ok) : call E (n + 503) 44 [i.av] h = some (.v (.bool !(rightR i)), h, ⟨[], [], true⟩) := by
  have hc := fun n h => c45 n h i hi
  have hil : AM.leafs i.av = 20 := Route.leafs hi
  have hia : isAggA i.av = true := rfl
  have hit : isTupA i.av = false := rfl
  rw [call_at (E := E) (f := 44) (fn := Tryz.f44) rfl Tryz.func44 rfl (Nat.le_of_ble_eq_true rfl)]
  simp -implicitDefEqProofs only [simA, Nat.reduceAdd, Nat.reduceLT, Nat.reduceEqDiff, Nat.reduceLeDiff, Nat.reduceMul, Int.reduceBEq, Int.reduceBNe, Int.reduceLT, Int.reduceLE, Int.reduceAdd, Int.reduceSub, Int.reduceMul, Int.reduceNeg, Nat.reduceSub, Nat.reducePow, Nat.reduceDiv, Nat.reduceMod, sz_58, agg_58, keep_44, E_masks, masks, rows_44, Tryz.f44, hil, hia, hit, hc]

theorem c82loop (n n0 : Nat) (h : Heap) (x : AV) (all : List Route) (hok : ∀ i ∈ all, i.ok) (s : RV h x all) (hbig : all.length < 1000000) : ∀ (rest pre : List Route) (j : Nat) (fr : FR), pre ++ rest = all → rest.length < j → keepF (masks 82) fr = [(0, x), (1, .fn (.func 44) [] []), (7, .v (.int .i64 all.length)), (8, .v (.int .i64 (pre.length : Nat)))] →
    ∃ fr', (loopN (exec E (call E (n + 503)) (n + 503) 82 19 n0 (loopB Tryz.f82 0)) (masks 82) j ⟨fr, h, [], []⟩ = some (.exit 0, ⟨fr', h, [], []⟩) ∧ (rest.any fun i => !rightR i) = false) ∨
      ∃ r : Nat, loopN (exec E (call E (n + 503)) (n + 503) 82 19 n0 (loopB Tryz.f82 0)) (masks 82) j ⟨fr, h, [], []⟩ = some (.ret, ⟨fr', h, [], []⟩) ∧ AM.get fr' 4 = some (.v (.int .i64 r)) ∧ (rest.any fun i => !rightR i) = true
  | [], pre, j, fr, hl, hj, hk => by
    obtain ⟨j, rfl⟩ : ∃ i, j = i + 1 := ⟨j - 1, by simp at hj; omega⟩
    have hi : ¬ ((pre.length : Int) < all.length) := by rw [← hl]; simp
    have he : ∃ fr', exec E (call E (n + 503)) (n + 503) 82 19 n0 (loopB Tryz.f82 0) ⟨keepF (masks 82) fr, h, [], []⟩ = some (.exit 0, ⟨fr', h, [], []⟩) := by
      rw [hk, exec_code]
      simp -implicitDefEqProofs only [simA, Nat.reduceAdd, Nat.reduceLT, Nat.reduceEqDiff, Nat.reduceLeDiff, Nat.reduceMul, Int.reduceBEq, Int.reduceBNe, Int.reduceLT, Int.reduceLE, Int.reduceAdd, Int.reduceSub, Int.reduceMul, Int.reduceNeg, Nat.reduceSub, Nat.reducePow, Nat.reduceDiv, Nat.reduceMod, ln_36, und_36, sz_58, agg_58, keep_82, E_masks, masks, rows_82, Tryz.f82, hi]
      exact ⟨_, rfl⟩
    obtain ⟨fr', he⟩ := he
    exact ⟨fr', .inl ⟨loopN_out he, rfl⟩⟩
  | i :: rest, pre, j, fr, hl, hj, hk => by
    obtain ⟨j, rfl⟩ : ∃ i, j = i + 1 := ⟨j - 1, by simp at hj; omega⟩
    have hlen : pre.length < all.length := by rw [← hl]; simp
    have hi : ((pre.length : Int) < all.length) := by omega
    have hi0 : i.ok := hok i (by rw [← hl]; simp)
    obtain ⟨a, ha1, ha2⟩ := s.at (j := pre.length) (r := i) (by rw [← hl]; simp)
    have hil : AM.leafs i.av = 20 := Route.leafs hi0
    have hia : isAggA i.av = true := rfl
    have hc := fun n h => c44 n h i hi0
    have w1 := wrapN1 (n := pre.length) (by omega)
    cases hm : rightR i with
    | false =>
      rw [hm] at hc
      have he : ∃ fr', exec E (call E (n + 503)) (n + 503) 82 19 n0 (loopB Tryz.f82 0) ⟨keepF (masks 82) fr, h, [], []⟩ = some (.ret, ⟨fr', h, [], []⟩) ∧ AM.get fr' 4 = some (.v (.int .i64 (pre.length : Nat))) := by
        rw [hk, exec_code]
        simp -implicitDefEqProofs only [simA, Nat.reduceAdd, Nat.reduceLT, Nat.reduceEqDiff, Nat.reduceLeDiff, Nat.reduceMul, Int.reduceBEq, Int.reduceBNe, Int.reduceLT, Int.reduceLE, Int.reduceAdd, Int.reduceSub, Int.reduceMul, Int.reduceNeg, Nat.reduceSub, Nat.reducePow, Nat.reduceDiv, Nat.reduceMod, ln_36, und_36, sz_58, agg_58, keep_82, E_masks, masks, rows_82, Tryz.f82, hi, ha1, ha2, hil, hia, hc]
        exact ⟨_, rfl, rfl⟩
      obtain ⟨fr', he, hg⟩ := he
      exact ⟨fr', .inr ⟨pre.length, loopN_ret he, hg, by simp [hm]⟩⟩
    | true =>
      rw [hm] at hc
      have he : ∃ fr', exec E (call E (n + 503)) (n + 503) 82 19 n0 (loopB Tryz.f82 0) ⟨keepF (masks 82) fr, h, [], []⟩ = some (.normal, ⟨fr', h, [], []⟩) ∧ keepF (masks 82) fr' = [(0, x), (1, .fn (.func 44) [] []), (7, .v (.int .i64 all.length)), (8, .v (.int .i64 ((pre ++ [i]).length : Nat)))] := by
        rw [hk, exec_code]
        simp -implicitDefEqProofs only [simA, Nat.reduceAdd, Nat.reduceLT, Nat.reduceEqDiff, Nat.reduceLeDiff, Nat.reduceMul, Int.reduceBEq, Int.reduceBNe, Int.reduceLT, Int.reduceLE, Int.reduceAdd, Int.reduceSub, Int.reduceMul, Int.reduceNeg, Nat.reduceSub, Nat.reducePow, Nat.reduceDiv, Nat.reduceMod, ln_36, und_36, sz_58, agg_58, keep_82, E_masks, masks, rows_82, Tryz.f82, hi, ha1, ha2, hil, hia, hc, w1]
        exact ⟨_, rfl, by simp; rfl⟩
      obtain ⟨fr1, he, hk1⟩ := he
      obtain ⟨fr', g⟩ := c82loop n n0 h x all hok s hbig rest (pre ++ [i]) j fr1 (by rw [← hl]; simp) (by simp at hj; omega) hk1
      refine ⟨fr', ?_⟩
      rw [loopN_step he]
      simpa [hm] using g

def anyBad (l : List Route) : Bool := l.any fun i => !rightR i

theorem c82 (n : Nat) (h : Heap) (x : AV) (all : List Route) (hok : ∀ i ∈ all, i.ok) (s : RV h x all) (hbig : all.length < 500) :
    ∃ r : Int, call E (n + 504) 82 [x, .fn (.func 44) [] []] h = some (.v (.int .i64 r), h, ⟨[], [], true⟩) ∧ (decide (0 ≤ r)) = anyBad all := by
  have hlen := s.len
  obtain ⟨fr', ⟨g1, g2⟩ | ⟨r, g1, g2, g3⟩⟩ := c82loop n h.length h x all hok s (by omega) all [] (n + 503) [(0, x), (1, .fn (.func 44) [] []), (7, .v (.int .i64 all.length)), (8, .v (.int .i64 0))] rfl (by omega) rfl
  · simp -implicitDefEqProofs only [simA, Nat.reduceAdd, Nat.reduceLT, Nat.reduceEqDiff, Nat.reduceLeDiff, Nat.reduceMul, Int.reduceBEq, Int.reduceBNe, Int.reduceLT, Int.reduceLE, Int.reduceAdd, Int.reduceSub, Int.reduceMul, Int.reduceNeg, Nat.reduceSub, Nat.reducePow, Nat.reduceDiv, Nat.reduceMod, ln_36, und_36, sz_58, agg_58, keep_82, E_masks, masks, rows_82, Tryz.f82] at g1
    rw [call_at (E := E) (f := 82) (fn := Tryz.f82) rfl Tryz.func82 rfl (Nat.le_of_ble_eq_true rfl)]
    simp -implicitDefEqProofs only [simA, Nat.reduceAdd, Nat.reduceLT, Nat.reduceEqDiff, Nat.reduceLeDiff, Nat.reduceMul, Int.reduceBEq, Int.reduceBNe, Int.reduceLT, Int.reduceLE, Int.reduceAdd, Int.reduceSub, Int.reduceMul, Int.reduceNeg, Nat.reduceSub, Nat.reducePow, Nat.reduceDiv, Nat.reduceMod, ln_36, und_36, sz_58, agg_58, keep_82, E_masks, masks, rows_82, Tryz.f82, hlen, g1]
    refine ⟨_, rfl, ?_⟩
    simp [anyBad, g2]
  · simp -implicitDefEqProofs only [simA, Nat.reduceAdd, Nat.reduceLT, Nat.reduceEqDiff, Nat.reduceLeDiff, Nat.reduceMul, Int.reduceBEq, Int.reduceBNe, Int.reduceLT, Int.reduceLE, Int.reduceAdd, Int.reduceSub, Int.reduceMul, Int.reduceNeg, Nat.reduceSub, Nat.reducePow, Nat.reduceDiv, Nat.reduceMod, ln_36, und_36, sz_58, agg_58, keep_82, E_masks, masks, rows_82, Tryz.f82] at g1
    rw [call_at (E := E) (f := 82) (fn := Tryz.f82) rfl Tryz.func82 rfl (Nat.le_of_ble_eq_true rfl)]
    simp -implicitDefEqProofs only [simA, Nat.reduceAdd, Nat.reduceLT, Nat.reduceEqDiff, Nat.reduceLeDiff, Nat.reduceMul, Int.reduceBEq, Int.reduceBNe, Int.reduceLT, Int.reduceLE, Int.reduceAdd, Int.reduceSub, Int.reduceMul, Int.reduceNeg, Nat.reduceSub, Nat.reducePow, Nat.reduceDiv, Nat.reduceMod, ln_36, und_36, sz_58, agg_58, keep_82, E_masks, masks, rows_82, Tryz.f82, hlen, g1, g2]
    refine ⟨_, rfl, ?_⟩
    simp [anyBad, g3]

theorem c43 (n : Nat) (h : Heap) (x : AV) (all : List Route) (hok : ∀ i ∈ all, i.ok) (s : RV h x all) (hbig : all.length < 500) :
    call E (n + 505) 43 [x, .fn (.func 44) [] []] h = some (.v (.bool (anyBad all)), h, ⟨[], [], true⟩) := by
  obtain ⟨r, hc, hr⟩ := c82 n h x all hok s hbig
  rw [call_at (E := E) (f := 43) (fn := Tryz.f43) rfl Tryz.func43 rfl (Nat.le_of_ble_eq_true rfl)]
  simp -implicitDefEqProofs only [simA, Nat.reduceAdd, Nat.reduceLT, Nat.reduceEqDiff, Nat.reduceLeDiff, Nat.reduceMul, Int.reduceBEq, Int.reduceBNe, Int.reduceLT, Int.reduceLE, Int.reduceAdd, Int.reduceSub, Int.reduceMul, Int.reduceNeg, Nat.reduceSub, Nat.reducePow, Nat.reduceDiv, Nat.reduceMod, keep_43, E_masks, masks, rows_43, Tryz.f43, hc]
  rw [hr]

/-! ### Routes sorted -/
def toRR (l : List Route) : List RR := l.filterMap fun r => if h : r.to.ad.length = 16 then some ⟨r, h⟩ else none
theorem toRR_map : ∀ {l : List Route}, (∀ r ∈ l, r.ok) → (toRR l).map (·.1) = l
  | [], _ => rfl
  | r :: l, h => by
    have hr := (h r (List.mem_cons_self ..)).1.1
    have ih := toRR_map fun q hq => h q (List.mem_cons_of_mem _ hq)
    unfold toRR at ih ⊢
    rw [List.filterMap_cons]
    simp [hr, ih]
theorem toRR_av {l : List Route} (h : ∀ r ∈ l, r.ok) : (toRR l).map avR = l.map Route.av := by
  conv => rhs; rw [← toRR_map h]
  rw [List.map_map]
  rfl
theorem toRR_len {l : List Route} (h : ∀ r ∈ l, r.ok) : (toRR l).length = l.length := by
  have := congrArg List.length (toRR_map h)
  simpa using this

/-- Routes sorted by their prefixes. -/
def sortT (l : List Route) : List Route := (sortR (toRR l)).map (·.1)
theorem sortT_perm {l : List Route} (h : ∀ r ∈ l, r.ok) : (sortT l).Perm l := by
  have := (sortR_perm (toRR l)).map (·.1)
  rw [toRR_map h] at this
  exact this
theorem sortT_sorted (l : List Route) : (sortT l).Pairwise fun a b => cmpP a.to b.to ≤ 0 := by
  unfold sortT
  rw [List.pairwise_map]
  exact sortR_sorted _
theorem sortT_av (l : List Route) : (sortR (toRR l)).map avR = (sortT l).map Route.av := by
  unfold sortT
  rw [List.map_map]
  rfl
theorem sortT_ok {l : List Route} (h : ∀ r ∈ l, r.ok) : ∀ r ∈ sortT l, r.ok := fun r hr => h r ((sortT_perm h).subset hr)
theorem sortT_len {l : List Route} (h : ∀ r ∈ l, r.ok) : (sortT l).length = l.length := (sortT_perm h).length_eq

theorem plain_routes : ∀ {l : List Route}, (∀ r ∈ l, r.ok) → plainEls 20 (l.map Route.av) = true
  | [], _ => rfl
  | r :: l, h => by
    have h1 : AM.leafs r.av = 20 := Route.leafs (h r (List.mem_cons_self ..))
    have h2 := idfree_route r
    have h3 : AM.toV r.av = some (.agg r.cells.toArray) := r.toV
    have ih := plain_routes fun q hq => h q (List.mem_cons_of_mem _ hq)
    simp [plainEls, h1, h2, h3, ih]

theorem RV.whole {h : Heap} {x : AV} {l : List Route} (v : RV h x l) : wholeOf h 20 x = some (l.map Route.av) := by
  rcases v with ⟨rfl, rfl⟩ | ⟨b, rfl⟩ | ⟨id, g, els, ex, rfl, hr, ht⟩
  · rfl
  · simp [wholeOf]
  · have hle : l.length ≤ els.length := by
      have := congrArg List.length ht
      simp at this
      omega
    simp [wholeOf, elsOf, hr, bleE, hle, ht]

theorem RV.noTup {h : Heap} {x : AV} {l : List Route} (v : RV h x l) : isTupA x = false := by
  rcases v with ⟨rfl, rfl⟩ | ⟨b, rfl⟩ | ⟨id, g, els, ex, rfl, hr, ht⟩ <;> rfl

theorem c47 (n : Nat) (h : Heap) (x : AV) (l : List Route) (v : RV h x l) : call E (n + 501) 47 [x] h = some (.fn (.func 85) [] [.ptr h.length 0 0 [] 0], h ++ [.row 1 0 [x] ⟨true, 36⟩], ⟨[], [], false⟩) := by
  have hls := sliceLen_one v.len
  have hnt := v.noTup
  have e0 : ∀ fr : FR, ev fr (.const .nilFunc) = some (.v .nilFunc) := fun _ => rfl
  rw [call_at (E := E) (f := 47) (fn := Tryz.f47) rfl Tryz.func47 rfl (Nat.le_of_ble_eq_true rfl)]
  simp -implicitDefEqProofs only [simA, Nat.reduceAdd, Nat.reduceLT, Nat.reduceEqDiff, Nat.reduceLeDiff, Nat.reduceMul, Int.reduceBEq, Int.reduceBNe, Int.reduceLT, Int.reduceLE, Int.reduceAdd, Int.reduceSub, Int.reduceMul, Int.reduceNeg, Nat.reduceSub, Nat.reducePow, Nat.reduceDiv, Nat.reduceMod, keep_47, E_masks, masks, rows_47, Tryz.f47, hls.1, hls.2, hnt, e0]

theorem c105 (n : Nat) (h : Heap) (id : Nat) (x : AV) (l : List Route) (hid : h[id]? = some (.row 1 0 [x] ⟨true, 36⟩)) (v : RV h x l) (hok : ∀ r ∈ l, r.ok) (hl : l.length < 999999) :
    call E (n + 1) 105 [.v (.slice none 0 0), .fn (.func 85) [] [.ptr id 0 0 [] 0]] h = if l = [] then some (nilS, h, ⟨[], [], true⟩) else some (.sl h.length 0 0 l.length, h ++ [.row 20 0 (l.map Route.av) ⟨false, 58⟩], ⟨[], [], false⟩) := by
  have hlook : lookAt h (.ptr id 0 0 [] 0) = some x := by
    have hn : nav x [] 0 = some x := by unfold nav; simp
    simp [lookAt, hid, hn]
  have hb : Nat.blt (l.map Route.av).length mostSeq = true := Nat.ble_eq_true_of_le (by simp [mostSeq]; omega)
  show ovVals 85 20 58 [.v (.slice none 0 0), .fn (.func 85) [] [.ptr id 0 0 [] 0]] h = _
  have hp := plain_routes hok
  show (match lookAt h (.ptr id 0 0 [] 0) with
      | some s => match wholeOf h 20 s with
        | some xs => bif plainEls 20 xs && Nat.blt xs.length mostSeq then
            bif xs.isEmpty then some (AV.v (.slice none 0 0), h, (⟨[], [], true⟩ : Eff)) else some (.sl h.length 0 0 xs.length, AM.newRow h 20 xs ⟨false, 58⟩, ⟨[], [], false⟩)
          else none
        | none => none
      | none => none) = _
  simp only [hlook, v.whole, hp, hb, Bool.and_true, cond_true]
  cases l with
  | nil => simp
  | cons r l => simp [AM.newRow]

theorem c84 (n : Nat) (h : Heap) (id : Nat) (l : List Route) (ex : Tag) (hid : h[id]? = some (.row 20 0 (l.map Route.av) ex)) (hok : ∀ r ∈ l, r.ok) (hl : l.length < 999999) (hne : l ≠ []) :
    call E (n + 1) 84 [.sl id 0 0 l.length, .fn (.func 48) [] []] h = some (.tup [], h.set id (.row 20 0 ((sortT l).map Route.av) ex), ⟨[id], [], false⟩) := by
  have hb : Nat.blt l.length mostSeq = true := Nat.ble_eq_true_of_le (by simp [mostSeq]; omega)
  have hp : 1 ≤ l.length := by
    cases l with
    | nil => exact (hne rfl).elim
    | cons r l => simp
  have hd : routesDec (l.map Route.av) = some (toRR l) := by rw [← toRR_av hok]; exact routesDec_map _
  show ovSort 48 [.sl id 0 0 l.length, .fn (.func 48) [] []] h = _
  show (match h[id]? with
      | some (.row k g' els ex) => bif Nat.beq g' 0 && (Nat.beq l.length els.length && (Nat.beq k 20 && (Nat.ble 1 l.length && Nat.blt l.length mostSeq))) then
          match routesDec els with
          | some d => some (AV.tup [], h.set id (.row k g' ((sortR d).map avR) ex), (⟨[id], [], false⟩ : Eff))
          | none => none
        else none
      | _ => none) = _
  rw [hid]
  simp only [hd, hb, Nat.beq_refl, cond_true, Bool.and_true, List.length_map, Bool.true_and, Nat.ble_eq_true_of_le hp, sortT_av]

theorem c83 (n : Nat) (h : Heap) (id : Nat) (x : AV) (l : List Route) (hid : h[id]? = some (.row 1 0 [x] ⟨true, 36⟩)) (v : RV h x l) (hok : ∀ r ∈ l, r.ok) (hl : l.length < 999999) :
    ∃ q, call E (n + 501) 83 [.fn (.func 85) [] [.ptr id 0 0 [] 0]] h = (if l = [] then some (nilS, h, ⟨[], [], q⟩) else some (.sl h.length 0 0 l.length, h ++ [.row 20 0 (l.map Route.av) ⟨false, 58⟩], ⟨[], [], q⟩)) := by
  have k := c105 (n + 499) h id x l hid v hok hl
  by_cases hz : l = []
  · rw [if_pos hz] at k
    refine ⟨false, ?_⟩
    rw [if_pos hz, call_at (E := E) (f := 83) (fn := Tryz.f83) rfl Tryz.func83 rfl (Nat.le_of_ble_eq_true rfl)]
    simp -implicitDefEqProofs only [simA, Nat.reduceAdd, Nat.reduceLT, Nat.reduceEqDiff, Nat.reduceLeDiff, Nat.reduceMul, Int.reduceBEq, Int.reduceBNe, Int.reduceLT, Int.reduceLE, Int.reduceAdd, Int.reduceSub, Int.reduceMul, Int.reduceNeg, Nat.reduceSub, Nat.reducePow, Nat.reduceDiv, Nat.reduceMod, keep_83, E_masks, masks, rows_83, Tryz.f83, k]
  · rw [if_neg hz] at k
    refine ⟨false, ?_⟩
    rw [if_neg hz, call_at (E := E) (f := 83) (fn := Tryz.f83) rfl Tryz.func83 rfl (Nat.le_of_ble_eq_true rfl)]
    simp -implicitDefEqProofs only [simA, Nat.reduceAdd, Nat.reduceLT, Nat.reduceEqDiff, Nat.reduceLeDiff, Nat.reduceMul, Int.reduceBEq, Int.reduceBNe, Int.reduceLT, Int.reduceLE, Int.reduceAdd, Int.reduceSub, Int.reduceMul, Int.reduceNeg, Nat.reduceSub, Nat.reducePow, Nat.reduceDiv, Nat.reduceMod, keep_83, E_masks, masks, rows_83, Tryz.f83, k]

theorem c46 (n : Nat) (h : Heap) (id : Nat) (x : AV) (l : List Route) (hid : h[id]? = some (.row 1 0 [x] ⟨true, 36⟩)) (v : RV h x l) (hok : ∀ r ∈ l, r.ok) (hl : l.length < 999999) :
    ∃ q, call E (n + 506) 46 [.fn (.func 85) [] [.ptr id 0 0 [] 0], .fn (.func 48) [] []] h = (if l = [] then some (nilS, h, ⟨[], [], q⟩) else some (.sl h.length 0 0 l.length, h ++ [.row 20 0 ((sortT l).map Route.av) ⟨false, 58⟩], ⟨[], [], q⟩)) := by
  obtain ⟨q, k⟩ := c83 (n + 4) h id x l hid v hok hl
  by_cases hz : l = []
  · subst hz
    simp only [if_true] at k
    have k2 : call E (n + 505) 84 [.v (.slice none 0 0), .fn (.func 48) [] []] h = some (.tup [], h, ⟨[], [], true⟩) := rfl
    refine ⟨false, ?_⟩
    rw [if_pos rfl, call_at (E := E) (f := 46) (fn := Tryz.f46) rfl Tryz.func46 rfl (Nat.le_of_ble_eq_true rfl)]
    simp -implicitDefEqProofs only [simA, Nat.reduceAdd, Nat.reduceLT, Nat.reduceEqDiff, Nat.reduceLeDiff, Nat.reduceMul, Int.reduceBEq, Int.reduceBNe, Int.reduceLT, Int.reduceLE, Int.reduceAdd, Int.reduceSub, Int.reduceMul, Int.reduceNeg, Nat.reduceSub, Nat.reducePow, Nat.reduceDiv, Nat.reduceMod, keep_46, E_masks, masks, rows_46, Tryz.f46, k, k2]
  · rw [if_neg hz] at k
    have k2 := c84 (n + 504) (h ++ [.row 20 0 (l.map Route.av) ⟨false, 58⟩]) h.length l ⟨false, 58⟩ (by rw [end0]; rfl) hok hl hz
    rw [endS0] at k2
    refine ⟨false, ?_⟩
    rw [if_neg hz, call_at (E := E) (f := 46) (fn := Tryz.f46) rfl Tryz.func46 rfl (Nat.le_of_ble_eq_true rfl)]
    simp -implicitDefEqProofs only [simA, Nat.reduceAdd, Nat.reduceLT, Nat.reduceEqDiff, Nat.reduceLeDiff, Nat.reduceMul, Int.reduceBEq, Int.reduceBNe, Int.reduceLT, Int.reduceLE, Int.reduceAdd, Int.reduceSub, Int.reduceMul, Int.reduceNeg, Nat.reduceSub, Nat.reducePow, Nat.reduceDiv, Nat.reduceMod, keep_46, E_masks, masks, rows_46, Tryz.f46, k, k2]

end Go.Proofs.YtobdjegooonklaaGreat

set_option linter.unusedSimpArgs false
set_option linter.unusedVariables false
set_option maxRecDepth 100000
set_option maxHeartbeats 1000000
namespace Go.Proofs.YtobdjegooonklaaGreat
open Go Go.AM

/-- Two neighbours of one prefix. -/
def dupT : List Route → Bool
  | a :: b :: l => decide (a.to = b.to) || dupT (b :: l)
  | _ => false

theorem dupT_sorted : ∀ {l : List Route}, (∀ r ∈ l, r.ok) → l.Pairwise (fun a b => cmpP a.to b.to ≤ 0) → dupT l = false → Sorted l
  | [], _, _, _ => .nil
  | [_], _, _, _ => by simp [Sorted]
  | a :: b :: l, ho, hp, hd => by
    simp only [dupT, Bool.or_eq_false_iff, decide_eq_false_iff_not] at hd
    have ih := dupT_sorted (fun r hr => ho r (List.mem_cons_of_mem _ hr)) (List.pairwise_cons.1 hp).2 hd.2
    have oa := (ho a (List.mem_cons_self ..)).1.1
    have ob := (ho b (by simp)).1.1
    have hab : cmpP a.to b.to < 0 := by
      have h1 := (List.pairwise_cons.1 hp).1 b (List.mem_cons_self ..)
      have h2 : cmpP a.to b.to ≠ 0 := fun h => hd.1 (cmpP_zero oa ob h)
      omega
    refine List.pairwise_cons.2 ⟨fun c hc => ?_, ih⟩
    rcases List.mem_cons.1 hc with rfl | hc'
    · exact hab
    · exact cmpP_trans oa ob (ho c (by simp [hc'])).1.1 hab ((List.pairwise_cons.1 ih).1 c hc')

theorem lit_at {h : Heap} {b : Bool} {l : List Route} {j : Nat} {r : Route} (hy : l[j]? = some r) : indexAddrE E.P h 36 (.lit 20 b (l.map Route.av)) (.v (.int .i64 (j : Nat))) = some (.rop r.av) := by
  have hj : j < l.length := (List.getElem?_eq_some_iff.1 hy).1
  have h2 : (j : Int) < l.length := by omega
  simp [indexAddrE, und_36, sz_58, idx, h2, hy]
theorem sl_at {h : Heap} {id g : Nat} {els : List AV} {ex : Tag} {l : List Route} {j : Nat} {r : Route} (hr : h[id]? = some (.row 20 g els ex)) (ht : els.take l.length = l.map Route.av) (hy : l[j]? = some r) : indexAddrE E.P h 36 (.sl id g 0 l.length) (.v (.int .i64 (j : Nat))) = some (.ptr id g j [] 0) ∧ els[j]? = some r.av := by
  have hj : j < l.length := (List.getElem?_eq_some_iff.1 hy).1
  have h2 : (j : Int) < l.length := by omega
  have he : els[j]? = some r.av := by
    have := congrArg (·[j]?) ht
    simp only [List.getElem?_take_of_lt hj, List.getElem?_map, hy, Option.map_some] at this
    exact this
  exact ⟨by simp [indexAddrE, und_36, sz_58, idx, h2, hr], he⟩

theorem round16 (n n0 : Nat) (h : Heap) (x : AV) (all : List Route) (hok : ∀ i ∈ all, i.ok) (s : RV h x all) (hbig : all.length < 490) (rest pre : List Route) (a b : Route) (hl : pre ++ a :: b :: rest = all) :
    ∃ fr', (a.to = b.to ∧ exec E (call E (n + 506)) (n + 506) 16 34 n0 (loopB Tryz.f16 0) ⟨[(0, x), (4, .v (.int .i64 ((pre.length + 1 : Nat) : Int)))], h, [], []⟩ = some (.ret, ⟨fr', h, [], []⟩) ∧ AM.get fr' 2 = some (.v (.pointer none)) ∧ AM.get fr' 3 = some (.v (.int .i64 9))) ∨
      (a.to ≠ b.to ∧ exec E (call E (n + 506)) (n + 506) 16 34 n0 (loopB Tryz.f16 0) ⟨[(0, x), (4, .v (.int .i64 ((pre.length + 1 : Nat) : Int)))], h, [], []⟩ = some (.normal, ⟨fr', h, [], []⟩) ∧ keepF (masks 16) fr' = [(0, x), (4, .v (.int .i64 (((pre ++ [a]).length + 1 : Nat) : Int)))]) := by
  have hi : (((pre.length + 1 : Nat) : Int) < all.length) := by rw [← hl]; simp; omega
  have hlen := s.len
  have ha0 : a.ok := hok a (by rw [← hl]; simp)
  have hb0 : b.ok := hok b (by rw [← hl]; simp)
  have ga : all[pre.length]? = some a := by rw [← hl]; simp
  have gb : all[pre.length + 1]? = some b := by rw [← hl]; simp
  have hpl : pre.length < 490 := by rw [← hl] at hbig; simp at hbig; omega
  have w1 : IntKind.i64.wrap (((pre.length + 1 : Nat) : Int) - 1) = (pre.length : Int) := by rw [wrap_i64 (by omega) (by omega)]; omega
  have w2 := wrapN1 (n := pre.length + 1) (by omega)
  have la : AM.leafs a.to.av = 18 := Pre.leafs ha0.1
  have lb : AM.leafs b.to.av = 18 := Pre.leafs hb0.1
  have ia : isAggA a.to.av = true := rfl
  have ib : isAggA b.to.av = true := rfl
  have heq := fun ox oy => eq55 (ox := ox) (oy := oy) ha0.1 hb0.1
  have lpre : (pre ++ [a]).length = pre.length + 1 := by simp
  rw [lpre]
  rcases s with ⟨rfl, rfl⟩ | ⟨b', rfl⟩ | ⟨id, g, els, ex, rfl, hr, ht⟩
  · simp at hl
  · have ha1 := lit_at (h := h) (b := b') ga
    have hb1 := lit_at (h := h) (b := b') gb
    by_cases hab : a.to = b.to
    · have hd : decide (a.to = b.to) = true := decide_eq_true hab
      simp only [hab, ne_eq, not_true_eq_false, false_and, or_false, true_and]
      rw [exec_code]
      simp -implicitDefEqProofs only [simA, Nat.reduceAdd, Nat.reduceLT, Nat.reduceEqDiff, Nat.reduceLeDiff, Nat.reduceMul, Int.reduceBEq, Int.reduceBNe, Int.reduceLT, Int.reduceLE, Int.reduceAdd, Int.reduceSub, Int.reduceMul, Int.reduceNeg, Nat.reduceSub, Nat.reducePow, Nat.reduceDiv, Nat.reduceMod, ln_36, prs_16_7, und_36, sz_58, fo_58_0, sz_55, agg_55, bd_99, keep_16, E_masks, masks, rows_16, Tryz.f16, hi, hlen, w1, w2, ha1, hb1, la, lb, ia, ib, heq, hd, route_nav, Route.av, pairsOK, clsOf, compat]
      exact ⟨_, rfl, rfl, rfl⟩
    · have hd : decide (a.to = b.to) = false := decide_eq_false hab
      simp only [hab, ne_eq, not_false_eq_true, false_and, false_or, true_and]
      rw [exec_code]
      simp -implicitDefEqProofs only [simA, Nat.reduceAdd, Nat.reduceLT, Nat.reduceEqDiff, Nat.reduceLeDiff, Nat.reduceMul, Int.reduceBEq, Int.reduceBNe, Int.reduceLT, Int.reduceLE, Int.reduceAdd, Int.reduceSub, Int.reduceMul, Int.reduceNeg, Nat.reduceSub, Nat.reducePow, Nat.reduceDiv, Nat.reduceMod, ln_36, prs_16_7, und_36, sz_58, fo_58_0, sz_55, agg_55, bd_99, keep_16, E_masks, masks, rows_16, Tryz.f16, hi, hlen, w1, w2, ha1, hb1, la, lb, ia, ib, heq, hd, route_nav, Route.av, pairsOK, clsOf, compat]
      exact ⟨_, rfl, rfl⟩
  · obtain ⟨ha1, ha2⟩ := sl_at hr ht ga
    obtain ⟨hb1, hb2⟩ := sl_at hr ht gb
    by_cases hab : a.to = b.to
    · have hd : decide (a.to = b.to) = true := decide_eq_true hab
      simp only [hab, ne_eq, not_true_eq_false, false_and, or_false, true_and]
      rw [exec_code]
      simp -implicitDefEqProofs only [simA, Nat.reduceAdd, Nat.reduceLT, Nat.reduceEqDiff, Nat.reduceLeDiff, Nat.reduceMul, Int.reduceBEq, Int.reduceBNe, Int.reduceLT, Int.reduceLE, Int.reduceAdd, Int.reduceSub, Int.reduceMul, Int.reduceNeg, Nat.reduceSub, Nat.reducePow, Nat.reduceDiv, Nat.reduceMod, ln_36, prs_16_7, und_36, sz_58, fo_58_0, sz_55, agg_55, bd_99, keep_16, E_masks, masks, rows_16, Tryz.f16, hi, hlen, w1, w2, ha1, hb1, ha2, hb2, hr, la, lb, ia, ib, heq, hd, route_nav, pairsOK, clsOf, compat]
      exact ⟨_, rfl, rfl, rfl⟩
    · have hd : decide (a.to = b.to) = false := decide_eq_false hab
      simp only [hab, ne_eq, not_false_eq_true, false_and, false_or, true_and]
      rw [exec_code]
      simp -implicitDefEqProofs only [simA, Nat.reduceAdd, Nat.reduceLT, Nat.reduceEqDiff, Nat.reduceLeDiff, Nat.reduceMul, Int.reduceBEq, Int.reduceBNe, Int.reduceLT, Int.reduceLE, Int.reduceAdd, Int.reduceSub, Int.reduceMul, Int.reduceNeg, Nat.reduceSub, Nat.reducePow, Nat.reduceDiv, Nat.reduceMod, ln_36, prs_16_7, und_36, sz_58, fo_58_0, sz_55, agg_55, bd_99, keep_16, E_masks, masks, rows_16, Tryz.f16, hi, hlen, w1, w2, ha1, hb1, ha2, hb2, hr, la, lb, ia, ib, heq, hd, route_nav, pairsOK, clsOf, compat]
      exact ⟨_, rfl, rfl⟩

theorem loop16 (n n0 : Nat) (h : Heap) (x : AV) (all : List Route) (hok : ∀ i ∈ all, i.ok) (s : RV h x all) (hbig : all.length < 490) : ∀ (rest pre : List Route) (a : Route) (j : Nat) (fr : FR), pre ++ a :: rest = all → rest.length < j → keepF (masks 16) fr = [(0, x), (4, .v (.int .i64 ((pre.length + 1 : Nat) : Int)))] →
    ∃ fr', (loopN (exec E (call E (n + 506)) (n + 506) 16 34 n0 (loopB Tryz.f16 0)) (masks 16) j ⟨fr, h, [], []⟩ = some (.exit 0, ⟨fr', h, [], []⟩) ∧ AM.get fr' 0 = some x ∧ dupT (a :: rest) = false) ∨
      (loopN (exec E (call E (n + 506)) (n + 506) 16 34 n0 (loopB Tryz.f16 0)) (masks 16) j ⟨fr, h, [], []⟩ = some (.ret, ⟨fr', h, [], []⟩) ∧ AM.get fr' 2 = some (.v (.pointer none)) ∧ AM.get fr' 3 = some (.v (.int .i64 9)) ∧ dupT (a :: rest) = true)
  | [], pre, a, j, fr, hl, hj, hk => by
    obtain ⟨j, rfl⟩ : ∃ i, j = i + 1 := ⟨j - 1, by simp at hj; omega⟩
    have hi : ¬ (((pre.length + 1 : Nat) : Int) < all.length) := by rw [← hl]; simp
    have hlen := s.len
    have he : ∃ fr', exec E (call E (n + 506)) (n + 506) 16 34 n0 (loopB Tryz.f16 0) ⟨[(0, x), (4, .v (.int .i64 ((pre.length + 1 : Nat) : Int)))], h, [], []⟩ = some (.exit 0, ⟨fr', h, [], []⟩) ∧ AM.get fr' 0 = some x := by
      rw [exec_code]
      simp -implicitDefEqProofs only [simA, Nat.reduceAdd, Nat.reduceLT, Nat.reduceEqDiff, Nat.reduceLeDiff, Nat.reduceMul, Int.reduceBEq, Int.reduceBNe, Int.reduceLT, Int.reduceLE, Int.reduceAdd, Int.reduceSub, Int.reduceMul, Int.reduceNeg, Nat.reduceSub, Nat.reducePow, Nat.reduceDiv, Nat.reduceMod, ln_36, prs_16_7, und_36, sz_58, fo_58_0, sz_55, agg_55, bd_99, keep_16, E_masks, masks, rows_16, Tryz.f16, hi, hlen]
      exact ⟨_, rfl, rfl⟩
    obtain ⟨fr', he, hg⟩ := he
    exact ⟨fr', .inl ⟨loopN_outK hk he, hg, rfl⟩⟩
  | b :: rest, pre, a, j, fr, hl, hj, hk => by
    obtain ⟨j, rfl⟩ : ∃ i, j = i + 1 := ⟨j - 1, by simp at hj; omega⟩
    obtain ⟨fr1, ⟨hab, he, hg⟩ | ⟨hab, he, hk1⟩⟩ := round16 n n0 h x all hok s hbig rest pre a b hl
    · exact ⟨fr1, .inr ⟨loopN_retK hk he, hg.1, hg.2, by simp [dupT, hab]⟩⟩
    · obtain ⟨fr', g⟩ := loop16 n n0 h x all hok s hbig rest (pre ++ [a]) b j fr1 (by rw [← hl]; simp) (by simp at hj; omega) hk1
      refine ⟨fr', ?_⟩
      rw [loopN_stepK hk he]
      simpa [dupT, hab] using g

def newE (l : List Route) : Int := if anyBad l then 1 else if dupT (sortT l) then 9 else if 300 < l.length then 7 else 0

theorem c16 (n : Nat) (h : Heap) (x : AV) (l : List Route) (v : RV h x l) (hok : ∀ r ∈ l, r.ok) (hl : l.length < 490) :
    (newE l ≠ 0 ∧ call E (n + 507) 16 [x] h = some (.tup [.v (.pointer none), .v (.int .i64 (newE l))], h, ⟨[], [], true⟩)) ∨
    (newE l = 0 ∧ l.length ≤ 300 ∧ Sorted (sortT l) ∧ ∃ t' h' s', call E (n + 507) 16 [x] h = some (.tup [.ptr t' 0 0 [] 0, .v (.int .i64 0)], h', ⟨[], [], false⟩) ∧ Tab h.length h' t' s' (sortT l) ∧ h.length ≤ h'.length ∧ ∀ q, q < h.length → h'[q]? = h[q]?) := by
  have hlen := v.len
  have k43 := fun m => c43 m h x l hok v (by omega)
  cases hb : anyBad l with
  | true =>
    left
    rw [hb] at k43
    have he : newE l = 1 := by simp [newE, hb]
    refine ⟨by rw [he]; decide, ?_⟩
    rw [he, call_at (E := E) (f := 16) (fn := Tryz.f16) rfl Tryz.func16 rfl (Nat.le_of_ble_eq_true rfl)]
    simp -implicitDefEqProofs only [simA, Nat.reduceAdd, Nat.reduceLT, Nat.reduceEqDiff, Nat.reduceLeDiff, Nat.reduceMul, Int.reduceBEq, Int.reduceBNe, Int.reduceLT, Int.reduceLE, Int.reduceAdd, Int.reduceSub, Int.reduceMul, Int.reduceNeg, Nat.reduceSub, Nat.reducePow, Nat.reduceDiv, Nat.reduceMod, ln_36, prs_16_7, und_36, sz_58, fo_58_0, sz_55, agg_55, bd_99, keep_16, E_masks, masks, rows_16, Tryz.f16, hlen, k43]
  | false =>
    rw [hb] at k43
    have k47 := fun m => c47 m h x l v
    have v1 : RV (h ++ [.row 1 0 [x] ⟨true, 36⟩]) x l := v.push _
    obtain ⟨q, k46⟩ := c46 n (h ++ [.row 1 0 [x] ⟨true, 36⟩]) h.length x l (by rw [end0]; rfl) v1 hok (by omega)
    have hsk := sortT_ok hok
    have hsl := sortT_len hok
    by_cases hz : l = []
    · subst hz
      right
      simp only [if_true] at k46
      have hs0 : sortT [] = [] := rfl
      have he : newE [] = 0 := by simp [newE, hb, hs0, dupT]
      refine ⟨he, by simp, by rw [hs0]; exact .nil, h.length + 1, h ++ [.row 1 0 [x] ⟨true, 36⟩, .row 1 0 [.agg [nilS]] ⟨true, 99⟩], nilS, ?_, ⟨by rw [end1]; rfl, by omega, .inl ⟨rfl, hs0⟩, by rw [hs0]; simp, by rw [hs0]; simp, by rw [hs0]; exact .nil⟩, by simp, fun q hq => List.getElem?_append_left hq⟩
      have hi : ¬ ((1 : Int) < ((0 : Nat) : Int)) := by decide
      have he2 : ∃ fr', exec E (call E (n + 506)) (n + 506) 16 34 h.length (loopB Tryz.f16 0) ⟨[(0, nilS), (4, .v (.int .i64 1))], h ++ [.row 1 0 [x] ⟨true, 36⟩], [], []⟩ = some (.exit 0, ⟨fr', h ++ [.row 1 0 [x] ⟨true, 36⟩], [], []⟩) ∧ AM.get fr' 0 = some nilS := by
        rw [exec_code]
        simp -implicitDefEqProofs only [simA, Nat.reduceAdd, Nat.reduceLT, Nat.reduceEqDiff, Nat.reduceLeDiff, Nat.reduceMul, Int.reduceBEq, Int.reduceBNe, Int.reduceLT, Int.reduceLE, Int.reduceAdd, Int.reduceSub, Int.reduceMul, Int.reduceNeg, Nat.reduceSub, Nat.reducePow, Nat.reduceDiv, Nat.reduceMod, ln_36, prs_16_7, und_36, sz_58, fo_58_0, sz_55, agg_55, bd_99, keep_16, E_masks, masks, rows_16, Tryz.f16, hi]
        exact ⟨_, rfl, rfl⟩
      obtain ⟨fr', e1, e2⟩ := he2
      have g1 := loopN_outK (n := n + 505) (l := masks 16) (fr := [(0, nilS), (4, .v (.int .i64 1))]) rfl e1
      simp -implicitDefEqProofs only [simA, Nat.reduceAdd, Nat.reduceLT, Nat.reduceEqDiff, Nat.reduceLeDiff, Nat.reduceMul, Int.reduceBEq, Int.reduceBNe, Int.reduceLT, Int.reduceLE, Int.reduceAdd, Int.reduceSub, Int.reduceMul, Int.reduceNeg, Nat.reduceSub, Nat.reducePow, Nat.reduceDiv, Nat.reduceMod, ln_36, prs_16_7, und_36, sz_58, fo_58_0, sz_55, agg_55, bd_99, keep_16, E_masks, masks, rows_16, Tryz.f16] at g1
      rw [call_at (E := E) (f := 16) (fn := Tryz.f16) rfl Tryz.func16 rfl (Nat.le_of_ble_eq_true rfl)]
      simp -implicitDefEqProofs only [simA, Nat.reduceAdd, Nat.reduceLT, Nat.reduceEqDiff, Nat.reduceLeDiff, Nat.reduceMul, Int.reduceBEq, Int.reduceBNe, Int.reduceLT, Int.reduceLE, Int.reduceAdd, Int.reduceSub, Int.reduceMul, Int.reduceNeg, Nat.reduceSub, Nat.reducePow, Nat.reduceDiv, Nat.reduceMod, ln_36, prs_16_7, und_36, sz_58, fo_58_0, sz_55, agg_55, bd_99, keep_16, E_masks, masks, rows_16, Tryz.f16, hlen, k43, k47, k46, g1, e2]
    · rw [if_neg hz] at k46
      obtain ⟨a, rest, hsr⟩ : ∃ a rest, sortT l = a :: rest := by
        cases hs : sortT l with
        | nil => rw [hs] at hsl; simp at hsl; exact (hz (List.eq_nil_of_length_eq_zero hsl.symm)).elim
        | cons a rest => exact ⟨a, rest, rfl⟩
      have vs : RV (h ++ [.row 1 0 [x] ⟨true, 36⟩, .row 20 0 ((sortT l).map Route.av) ⟨false, 58⟩]) (.sl (h.length + 1) 0 0 l.length) (sortT l) := .inr (.inr ⟨h.length + 1, 0, (sortT l).map Route.av, ⟨false, 58⟩, by rw [hsl], by rw [end1]; rfl, by rw [List.take_of_length_le (by simp)]⟩)
      obtain ⟨fr', ⟨g1, g2, g3⟩ | ⟨g1, g2, g3, g4⟩⟩ := loop16 n h.length _ _ (sortT l) hsk vs (by omega) rest [] a (n + 506) [(0, .sl (h.length + 1) 0 0 l.length), (4, .v (.int .i64 1))] hsr.symm (by rw [← hsl, hsr] at hl; simp at hl; omega) rfl
      · simp -implicitDefEqProofs only [simA, Nat.reduceAdd, Nat.reduceLT, Nat.reduceEqDiff, Nat.reduceLeDiff, Nat.reduceMul, Int.reduceBEq, Int.reduceBNe, Int.reduceLT, Int.reduceLE, Int.reduceAdd, Int.reduceSub, Int.reduceMul, Int.reduceNeg, Nat.reduceSub, Nat.reducePow, Nat.reduceDiv, Nat.reduceMod, ln_36, prs_16_7, und_36, sz_58, fo_58_0, sz_55, agg_55, bd_99, keep_16, E_masks, masks, rows_16, Tryz.f16] at g1
        rw [← hsr] at g3
        by_cases hbig : 300 < l.length
        · left
          have he : newE l = 7 := by simp [newE, hb, g3, hbig]
          have hi : ((300 : Int) < l.length) := by omega
          refine ⟨by rw [he]; decide, ?_⟩
          rw [he, call_at (E := E) (f := 16) (fn := Tryz.f16) rfl Tryz.func16 rfl (Nat.le_of_ble_eq_true rfl)]
          simp -implicitDefEqProofs only [simA, Nat.reduceAdd, Nat.reduceLT, Nat.reduceEqDiff, Nat.reduceLeDiff, Nat.reduceMul, Int.reduceBEq, Int.reduceBNe, Int.reduceLT, Int.reduceLE, Int.reduceAdd, Int.reduceSub, Int.reduceMul, Int.reduceNeg, Nat.reduceSub, Nat.reducePow, Nat.reduceDiv, Nat.reduceMod, ln_36, prs_16_7, und_36, sz_58, fo_58_0, sz_55, agg_55, bd_99, keep_16, E_masks, masks, rows_16, Tryz.f16, hlen, k43, k47, k46, g1, g2, hi]
        · right
          have he : newE l = 0 := by simp [newE, hb, g3, hbig]
          have hi : ¬ ((300 : Int) < l.length) := by omega
          have hst := dupT_sorted hsk (sortT_sorted l) g3
          refine ⟨he, by omega, hst, h.length + 2, h ++ [.row 1 0 [x] ⟨true, 36⟩, .row 20 0 ((sortT l).map Route.av) ⟨false, 58⟩, .row 1 0 [.agg [.sl (h.length + 1) 0 0 l.length]] ⟨true, 99⟩], .sl (h.length + 1) 0 0 l.length, ?_, ⟨by simp, by omega, ?_, hsk, by omega, hst⟩, by simp, fun q hq => List.getElem?_append_left hq⟩
          · rw [call_at (E := E) (f := 16) (fn := Tryz.f16) rfl Tryz.func16 rfl (Nat.le_of_ble_eq_true rfl)]
            simp -implicitDefEqProofs only [simA, Nat.reduceAdd, Nat.reduceLT, Nat.reduceEqDiff, Nat.reduceLeDiff, Nat.reduceMul, Int.reduceBEq, Int.reduceBNe, Int.reduceLT, Int.reduceLE, Int.reduceAdd, Int.reduceSub, Int.reduceMul, Int.reduceNeg, Nat.reduceSub, Nat.reducePow, Nat.reduceDiv, Nat.reduceMod, ln_36, prs_16_7, und_36, sz_58, fo_58_0, sz_55, agg_55, bd_99, keep_16, E_masks, masks, rows_16, Tryz.f16, hlen, k43, k47, k46, g1, g2, hi]
          · exact .inr (.inr ⟨h.length + 1, 0, (sortT l).map Route.av, false, by rw [hsl], by omega, by omega, by simp, by rw [List.take_of_length_le (by simp)]⟩)
      · simp -implicitDefEqProofs only [simA, Nat.reduceAdd, Nat.reduceLT, Nat.reduceEqDiff, Nat.reduceLeDiff, Nat.reduceMul, Int.reduceBEq, Int.reduceBNe, Int.reduceLT, Int.reduceLE, Int.reduceAdd, Int.reduceSub, Int.reduceMul, Int.reduceNeg, Nat.reduceSub, Nat.reducePow, Nat.reduceDiv, Nat.reduceMod, ln_36, prs_16_7, und_36, sz_58, fo_58_0, sz_55, agg_55, bd_99, keep_16, E_masks, masks, rows_16, Tryz.f16] at g1
        left
        rw [← hsr] at g4
        have he : newE l = 9 := by simp [newE, hb, g4]
        refine ⟨by rw [he]; decide, ?_⟩
        rw [he, call_at (E := E) (f := 16) (fn := Tryz.f16) rfl Tryz.func16 rfl (Nat.le_of_ble_eq_true rfl)]
        simp -implicitDefEqProofs only [simA, Nat.reduceAdd, Nat.reduceLT, Nat.reduceEqDiff, Nat.reduceLeDiff, Nat.reduceMul, Int.reduceBEq, Int.reduceBNe, Int.reduceLT, Int.reduceLE, Int.reduceAdd, Int.reduceSub, Int.reduceMul, Int.reduceNeg, Nat.reduceSub, Nat.reducePow, Nat.reduceDiv, Nat.reduceMod, ln_36, prs_16_7, und_36, sz_58, fo_58_0, sz_55, agg_55, bd_99, keep_16, E_masks, masks, rows_16, Tryz.f16, hlen, k43, k47, k46, g1, g2, g3]

end Go.Proofs.YtobdjegooonklaaGreat
