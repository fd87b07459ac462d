/- The reference's put and drop of layer 8: by gen_put.py. Conditions: none. -/
import Derived.Test.YtobdjegooonklaaGreatAmRefTab
set_option linter.unusedSimpArgs false
set_option linter.unusedVariables false
set_option maxRecDepth 100000
set_option maxHeartbeats 1000000
namespace Go.Proofs.YtobdjegooonklaaGreat
open Go Go.AM

theorem round58 (n : Nat) (h : Heap) (x : AV) (all : List Route) (r : Route) (hr : r.ok) (hok : ∀ i ∈ all, i.ok) (s : RV h x all) (hbig : all.length < 490) (rest pre : List Route) (a : Route) (hl : pre ++ a :: rest = all) (b : Bool) (out : List Route) (t : AV) (H : Heap) (hout : out.length < 1000) (o : OutG (h ++ [.row 20 0 [r.av] ⟨true, 58⟩]) 20 58 (out.map Route.av) t H) :
    ∃ fr' t' H', exec E (call E (n + 500)) (n + 500) 58 45 h.length (loopB Tryz.f58 0) ⟨[(0, x), (3, .ptr h.length 0 0 [] 0), (5, t), (6, .v (.bool b)), (7, .v (.int .i64 (pre.length : Nat)))], H, [], []⟩ = some (.normal, ⟨fr', H', [], []⟩) ∧
      keepF (masks 58) fr' = [(0, x), (3, .ptr h.length 0 0 [] 0), (5, t'), (6, .v (.bool (b || decide (cmpP r.to a.to < 0)))), (7, .v (.int .i64 ((pre.length + 1 : Nat) : Int)))] ∧
      OutG (h ++ [.row 20 0 [r.av] ⟨true, 58⟩]) 20 58 ((out ++ if b = false ∧ cmpP r.to a.to < 0 then [r, a] else [a]).map Route.av) t' H' := by
  have hi : ((pre.length : Int) < all.length) := by rw [← hl]; simp; omega
  have hlen := s.len
  have ha0 : a.ok := hok a (by rw [← hl]; simp)
  have ga : all[pre.length]? = some a := by rw [← hl]; simp
  have hpl : pre.length < 490 := by rw [← hl] at hbig; simp at hbig; omega
  have w2 := wrapN1 (n := pre.length) (by omega)
  have hby : (out.length + 1) * 48 ≤ 140737488355328 := by omega
  have hby2 : (out.length + 1 + 1) * 48 ≤ 140737488355328 := Nat.le_trans (Nat.mul_le_mul_right 48 (show out.length + 1 + 1 ≤ 1002 by omega)) (by decide)
  have la : AM.leafs a.av = 20 := Route.leafs ha0
  have lr : AM.leafs r.av = 20 := Route.leafs hr
  have lat : AM.leafs a.to.av = 18 := Pre.leafs ha0.1
  have lrt : AM.leafs r.to.av = 18 := Pre.leafs hr.1
  have ia : isAggA a.av = true := rfl
  have ir : isAggA r.av = true := rfl
  have iat : isAggA a.to.av = true := rfl
  have irt : isAggA r.to.av = true := rfl
  have k98 := fun m H => c98 m r.to a.to hr.1 ha0.1 H
  have sH : RV H x all := s.stay fun id hid => by rw [o.old id (by simp; omega), List.getElem?_append_left hid]
  have hbx : H[h.length]? = some (.row 20 0 [r.av] ⟨true, 58⟩) := by rw [o.old h.length (by simp)]; simp
  have hsl : sliceLen t = some out.length := by rw [o.len]; simp
  have hzl : leafsL (List.replicate 16 (AV.v (.int .u8 0))) = 16 := by kernel_rfl
  obtain ⟨t1, H1, s1, c1, a1, hs1, o1⟩ := o.app a.av (idfree_route a)
  obtain ⟨u1, K1, v1, d1, b1, hv1, p1⟩ := o.app r.av (idfree_route r)
  obtain ⟨u2, K2, v2, d2, b2, hv2, p2⟩ := p1.app a.av (idfree_route a)
  have hsl2 : sliceLen u1 = some (out.length + 1) := by rw [p1.len]; simp
  have hB : (h ++ [Row.row 20 0 [r.av] ⟨true, 58⟩]).length = h.length + 1 := by simp
  rw [hB] at hs1 hv1 hv2
  have hbx1 : K1[h.length]? = some (.row 20 0 [r.av] ⟨true, 58⟩) := by rw [p1.old h.length (by simp)]; simp
  have sH1 : RV K1 x all := s.stay fun id hid => by rw [p1.old id (by simp; omega), List.getElem?_append_left hid]
  have ta : isTupA a.av = false := rfl
  have tr : isTupA r.av = false := rfl
  rw [exec_code]
  rcases sH with ⟨rfl, rfl⟩ | ⟨b', rfl⟩ | ⟨id, g, els, ex, rfl, hrow, ht⟩
  · simp at hl
  · have e1 := lit_at (h := H) (b := b') ga
    have e2 := lit_at (h := K1) (b := b') ga
    cases b with
    | true =>
      rcases hs1 with rfl | rfl
      all_goals
        simp -implicitDefEqProofs only [simF, Nat.reduceAdd, Nat.reduceLT, Nat.reduceEqDiff, Nat.reduceLeDiff, Nat.reduceMul, Int.reduceBEq, Int.reduceBNe, Int.reduceLT, Int.reduceLE, Int.reduceAdd, Int.reduceSub, Int.reduceMul, Int.reduceNeg, Nat.reduceSub, Nat.reducePow, Nat.reduceDiv, Nat.reduceMod, ln_36, prs_58_6, fo_58_0, sz_55, agg_55, und_36, sz_58, agg_58, bs_36_1_58, ap_36_36, src_36, keep_58, E_masks, masks, rows_58, Tryz.f58, hi, hlen, w2, e1, e2, hbx, hbx1, la, lr, lat, lrt, ia, ir, ta, tr, iat, irt, hsl, hsl2, hby, hby2, a1, b1, b2, hzl, route_nav, fa_rop, fa_ptr, k98, pairsOK, clsOf, compat]
        exact ⟨_, _, _, rfl, rfl, by simpa using o1⟩
    | false =>
      by_cases hlt : cmpP r.to a.to < 0
      · have hd : decide (cmpP r.to a.to < 0) = true := decide_eq_true hlt
        rcases hv1 with rfl | rfl <;> rcases hv2 with rfl | rfl
        · simp -implicitDefEqProofs only [simF, Nat.reduceAdd, Nat.reduceLT, Nat.reduceEqDiff, Nat.reduceLeDiff, Nat.reduceMul, Int.reduceBEq, Int.reduceBNe, Int.reduceLT, Int.reduceLE, Int.reduceAdd, Int.reduceSub, Int.reduceMul, Int.reduceNeg, Nat.reduceSub, Nat.reducePow, Nat.reduceDiv, Nat.reduceMod, ln_36, prs_58_6, fo_58_0, sz_55, agg_55, und_36, sz_58, agg_58, bs_36_1_58, ap_36_36, src_36, keep_58, E_masks, masks, rows_58, Tryz.f58, hi, hlen, w2, e1, e2, hbx, hbx1, la, lr, lat, lrt, ia, ir, ta, tr, iat, irt, hsl, hsl2, hby, hby2, a1, b1, b2, hzl, route_nav, fa_rop, fa_ptr, k98, pairsOK, clsOf, compat, hd]
          exact ⟨_, _, _, rfl, rfl, by simpa [hlt] using p2⟩
        · simp -implicitDefEqProofs only [simF, Nat.reduceAdd, Nat.reduceLT, Nat.reduceEqDiff, Nat.reduceLeDiff, Nat.reduceMul, Int.reduceBEq, Int.reduceBNe, Int.reduceLT, Int.reduceLE, Int.reduceAdd, Int.reduceSub, Int.reduceMul, Int.reduceNeg, Nat.reduceSub, Nat.reducePow, Nat.reduceDiv, Nat.reduceMod, ln_36, prs_58_6, fo_58_0, sz_55, agg_55, und_36, sz_58, agg_58, bs_36_1_58, ap_36_36, src_36, keep_58, E_masks, masks, rows_58, Tryz.f58, hi, hlen, w2, e1, e2, hbx, hbx1, la, lr, lat, lrt, ia, ir, ta, tr, iat, irt, hsl, hsl2, hby, hby2, a1, b1, b2, hzl, route_nav, fa_rop, fa_ptr, k98, pairsOK, clsOf, compat, hd]
          exact ⟨_, _, _, rfl, rfl, by simpa [hlt] using p2⟩
        · simp -implicitDefEqProofs only [simF, Nat.reduceAdd, Nat.reduceLT, Nat.reduceEqDiff, Nat.reduceLeDiff, Nat.reduceMul, Int.reduceBEq, Int.reduceBNe, Int.reduceLT, Int.reduceLE, Int.reduceAdd, Int.reduceSub, Int.reduceMul, Int.reduceNeg, Nat.reduceSub, Nat.reducePow, Nat.reduceDiv, Nat.reduceMod, ln_36, prs_58_6, fo_58_0, sz_55, agg_55, und_36, sz_58, agg_58, bs_36_1_58, ap_36_36, src_36, keep_58, E_masks, masks, rows_58, Tryz.f58, hi, hlen, w2, e1, e2, hbx, hbx1, la, lr, lat, lrt, ia, ir, ta, tr, iat, irt, hsl, hsl2, hby, hby2, a1, b1, b2, hzl, route_nav, fa_rop, fa_ptr, k98, pairsOK, clsOf, compat, hd]
          exact ⟨_, _, _, rfl, rfl, by simpa [hlt] using p2⟩
        · simp -implicitDefEqProofs only [simF, Nat.reduceAdd, Nat.reduceLT, Nat.reduceEqDiff, Nat.reduceLeDiff, Nat.reduceMul, Int.reduceBEq, Int.reduceBNe, Int.reduceLT, Int.reduceLE, Int.reduceAdd, Int.reduceSub, Int.reduceMul, Int.reduceNeg, Nat.reduceSub, Nat.reducePow, Nat.reduceDiv, Nat.reduceMod, ln_36, prs_58_6, fo_58_0, sz_55, agg_55, und_36, sz_58, agg_58, bs_36_1_58, ap_36_36, src_36, keep_58, E_masks, masks, rows_58, Tryz.f58, hi, hlen, w2, e1, e2, hbx, hbx1, la, lr, lat, lrt, ia, ir, ta, tr, iat, irt, hsl, hsl2, hby, hby2, a1, b1, b2, hzl, route_nav, fa_rop, fa_ptr, k98, pairsOK, clsOf, compat, hd]
          exact ⟨_, _, _, rfl, rfl, by simpa [hlt] using p2⟩
      · have hd : decide (cmpP r.to a.to < 0) = false := decide_eq_false hlt
        rcases hs1 with rfl | rfl
        all_goals
          simp -implicitDefEqProofs only [simF, Nat.reduceAdd, Nat.reduceLT, Nat.reduceEqDiff, Nat.reduceLeDiff, Nat.reduceMul, Int.reduceBEq, Int.reduceBNe, Int.reduceLT, Int.reduceLE, Int.reduceAdd, Int.reduceSub, Int.reduceMul, Int.reduceNeg, Nat.reduceSub, Nat.reducePow, Nat.reduceDiv, Nat.reduceMod, ln_36, prs_58_6, fo_58_0, sz_55, agg_55, und_36, sz_58, agg_58, bs_36_1_58, ap_36_36, src_36, keep_58, E_masks, masks, rows_58, Tryz.f58, hi, hlen, w2, e1, e2, hbx, hbx1, la, lr, lat, lrt, ia, ir, ta, tr, iat, irt, hsl, hsl2, hby, hby2, a1, b1, b2, hzl, route_nav, fa_rop, fa_ptr, k98, pairsOK, clsOf, compat, hd]
          exact ⟨_, _, _, rfl, rfl, by simpa [hlt] using o1⟩
  · obtain ⟨e1, f1⟩ := sl_at hrow ht ga
    have hid : id < h.length := by
      rcases s with ⟨h0, _⟩ | ⟨_, h0⟩ | ⟨_, _, _, _, h0, h1, _⟩
      · cases h0
      · cases h0
      · injection h0 with h0
        subst h0
        exact lt_of_getElem? h1
    have hrow1 : K1[id]? = some (.row 20 g els ex) := by
      rw [p1.old id (by simp; omega), ← o.old id (by simp; omega)]
      exact hrow
    obtain ⟨e2, _⟩ := sl_at hrow1 ht ga
    cases b with
    | true =>
      rcases hs1 with rfl | rfl
      all_goals
        simp -implicitDefEqProofs only [simA, Nat.reduceAdd, Nat.reduceLT, Nat.reduceEqDiff, Nat.reduceLeDiff, Nat.reduceMul, Int.reduceBEq, Int.reduceBNe, Int.reduceLT, Int.reduceLE, Int.reduceAdd, Int.reduceSub, Int.reduceMul, Int.reduceNeg, Nat.reduceSub, Nat.reducePow, Nat.reduceDiv, Nat.reduceMod, ln_36, prs_58_6, fo_58_0, sz_55, agg_55, und_36, sz_58, agg_58, bs_36_1_58, ap_36_36, src_36, keep_58, E_masks, masks, rows_58, Tryz.f58, hi, hlen, w2, e1, e2, hbx, hbx1, la, lr, lat, lrt, ia, ir, ta, tr, iat, irt, hsl, hsl2, hby, hby2, a1, b1, b2, hzl, route_nav, k98, pairsOK, clsOf, compat, hrow, hrow1, f1]
        exact ⟨_, _, _, rfl, rfl, by simpa using o1⟩
    | false =>
      by_cases hlt : cmpP r.to a.to < 0
      · have hd : decide (cmpP r.to a.to < 0) = true := decide_eq_true hlt
        rcases hv1 with rfl | rfl <;> rcases hv2 with rfl | rfl
        · simp -implicitDefEqProofs only [simA, Nat.reduceAdd, Nat.reduceLT, Nat.reduceEqDiff, Nat.reduceLeDiff, Nat.reduceMul, Int.reduceBEq, Int.reduceBNe, Int.reduceLT, Int.reduceLE, Int.reduceAdd, Int.reduceSub, Int.reduceMul, Int.reduceNeg, Nat.reduceSub, Nat.reducePow, Nat.reduceDiv, Nat.reduceMod, ln_36, prs_58_6, fo_58_0, sz_55, agg_55, und_36, sz_58, agg_58, bs_36_1_58, ap_36_36, src_36, keep_58, E_masks, masks, rows_58, Tryz.f58, hi, hlen, w2, e1, e2, hbx, hbx1, la, lr, lat, lrt, ia, ir, ta, tr, iat, irt, hsl, hsl2, hby, hby2, a1, b1, b2, hzl, route_nav, k98, pairsOK, clsOf, compat, hrow, hrow1, f1, hd]
          exact ⟨_, _, _, rfl, rfl, by simpa [hlt] using p2⟩
        · simp -implicitDefEqProofs only [simA, Nat.reduceAdd, Nat.reduceLT, Nat.reduceEqDiff, Nat.reduceLeDiff, Nat.reduceMul, Int.reduceBEq, Int.reduceBNe, Int.reduceLT, Int.reduceLE, Int.reduceAdd, Int.reduceSub, Int.reduceMul, Int.reduceNeg, Nat.reduceSub, Nat.reducePow, Nat.reduceDiv, Nat.reduceMod, ln_36, prs_58_6, fo_58_0, sz_55, agg_55, und_36, sz_58, agg_58, bs_36_1_58, ap_36_36, src_36, keep_58, E_masks, masks, rows_58, Tryz.f58, hi, hlen, w2, e1, e2, hbx, hbx1, la, lr, lat, lrt, ia, ir, ta, tr, iat, irt, hsl, hsl2, hby, hby2, a1, b1, b2, hzl, route_nav, k98, pairsOK, clsOf, compat, hrow, hrow1, f1, hd]
          exact ⟨_, _, _, rfl, rfl, by simpa [hlt] using p2⟩
        · simp -implicitDefEqProofs only [simA, Nat.reduceAdd, Nat.reduceLT, Nat.reduceEqDiff, Nat.reduceLeDiff, Nat.reduceMul, Int.reduceBEq, Int.reduceBNe, Int.reduceLT, Int.reduceLE, Int.reduceAdd, Int.reduceSub, Int.reduceMul, Int.reduceNeg, Nat.reduceSub, Nat.reducePow, Nat.reduceDiv, Nat.reduceMod, ln_36, prs_58_6, fo_58_0, sz_55, agg_55, und_36, sz_58, agg_58, bs_36_1_58, ap_36_36, src_36, keep_58, E_masks, masks, rows_58, Tryz.f58, hi, hlen, w2, e1, e2, hbx, hbx1, la, lr, lat, lrt, ia, ir, ta, tr, iat, irt, hsl, hsl2, hby, hby2, a1, b1, b2, hzl, route_nav, k98, pairsOK, clsOf, compat, hrow, hrow1, f1, hd]
          exact ⟨_, _, _, rfl, rfl, by simpa [hlt] using p2⟩
        · simp -implicitDefEqProofs only [simA, Nat.reduceAdd, Nat.reduceLT, Nat.reduceEqDiff, Nat.reduceLeDiff, Nat.reduceMul, Int.reduceBEq, Int.reduceBNe, Int.reduceLT, Int.reduceLE, Int.reduceAdd, Int.reduceSub, Int.reduceMul, Int.reduceNeg, Nat.reduceSub, Nat.reducePow, Nat.reduceDiv, Nat.reduceMod, ln_36, prs_58_6, fo_58_0, sz_55, agg_55, und_36, sz_58, agg_58, bs_36_1_58, ap_36_36, src_36, keep_58, E_masks, masks, rows_58, Tryz.f58, hi, hlen, w2, e1, e2, hbx, hbx1, la, lr, lat, lrt, ia, ir, ta, tr, iat, irt, hsl, hsl2, hby, hby2, a1, b1, b2, hzl, route_nav, k98, pairsOK, clsOf, compat, hrow, hrow1, f1, hd]
          exact ⟨_, _, _, rfl, rfl, by simpa [hlt] using p2⟩
      · have hd : decide (cmpP r.to a.to < 0) = false := decide_eq_false hlt
        rcases hs1 with rfl | rfl
        all_goals
          simp -implicitDefEqProofs only [simA, Nat.reduceAdd, Nat.reduceLT, Nat.reduceEqDiff, Nat.reduceLeDiff, Nat.reduceMul, Int.reduceBEq, Int.reduceBNe, Int.reduceLT, Int.reduceLE, Int.reduceAdd, Int.reduceSub, Int.reduceMul, Int.reduceNeg, Nat.reduceSub, Nat.reducePow, Nat.reduceDiv, Nat.reduceMod, ln_36, prs_58_6, fo_58_0, sz_55, agg_55, und_36, sz_58, agg_58, bs_36_1_58, ap_36_36, src_36, keep_58, E_masks, masks, rows_58, Tryz.f58, hi, hlen, w2, e1, e2, hbx, hbx1, la, lr, lat, lrt, ia, ir, ta, tr, iat, irt, hsl, hsl2, hby, hby2, a1, b1, b2, hzl, route_nav, k98, pairsOK, clsOf, compat, hrow, hrow1, f1, hd]
          exact ⟨_, _, _, rfl, rfl, by simpa [hlt] using o1⟩

theorem loop58 (n : Nat) (h : Heap) (x : AV) (all : List Route) (r : Route) (hr : r.ok) (hok : ∀ i ∈ all, i.ok) (s : RV h x all) (hbig : all.length < 490) : ∀ (rest pre : List Route) (b : Bool) (out : List Route) (t : AV) (H : Heap) (j : Nat) (fr : FR), pre ++ rest = all → rest.length < j → out.length + 2 * rest.length < 1000 → OutG (h ++ [.row 20 0 [r.av] ⟨true, 58⟩]) 20 58 (out.map Route.av) t H →
    keepF (masks 58) fr = [(0, x), (3, .ptr h.length 0 0 [] 0), (5, t), (6, .v (.bool b)), (7, .v (.int .i64 (pre.length : Nat)))] →
    ∃ fr' t' H', loopN (exec E (call E (n + 500)) (n + 500) 58 45 h.length (loopB Tryz.f58 0)) (masks 58) j ⟨fr, H, [], []⟩ = some (.exit 0, ⟨fr', H', [], []⟩) ∧ AM.get fr' 3 = some (.ptr h.length 0 0 [] 0) ∧ AM.get fr' 5 = some t' ∧ AM.get fr' 6 = some (.v (.bool (insW r b rest).2)) ∧
      OutG (h ++ [.row 20 0 [r.av] ⟨true, 58⟩]) 20 58 ((out ++ (insW r b rest).1).map Route.av) t' H'
  | [], pre, b, out, t, H, j, fr, hl, hj, hn, o, hk => by
    obtain ⟨j, rfl⟩ : ∃ i, j = i + 1 := ⟨j - 1, by simp at hj; omega⟩
    have hi : ¬ ((pre.length : Int) < all.length) := by rw [← hl]; simp
    have hlen := s.len
    have he : ∃ fr', exec E (call E (n + 500)) (n + 500) 58 45 h.length (loopB Tryz.f58 0) ⟨[(0, x), (3, .ptr h.length 0 0 [] 0), (5, t), (6, .v (.bool b)), (7, .v (.int .i64 (pre.length : Nat)))], H, [], []⟩ = some (.exit 0, ⟨fr', H, [], []⟩) ∧ AM.get fr' 3 = some (.ptr h.length 0 0 [] 0) ∧ AM.get fr' 5 = some t ∧ AM.get fr' 6 = some (.v (.bool b)) := by
      rw [exec_code]
      simp -implicitDefEqProofs only [simA, Nat.reduceAdd, Nat.reduceLT, Nat.reduceEqDiff, Nat.reduceLeDiff, Nat.reduceMul, Int.reduceBEq, Int.reduceBNe, Int.reduceLT, Int.reduceLE, Int.reduceAdd, Int.reduceSub, Int.reduceMul, Int.reduceNeg, Nat.reduceSub, Nat.reducePow, Nat.reduceDiv, Nat.reduceMod, ln_36, prs_58_6, fo_58_0, sz_55, agg_55, und_36, sz_58, agg_58, bs_36_1_58, ap_36_36, src_36, keep_58, E_masks, masks, rows_58, Tryz.f58, hi, hlen]
      exact ⟨_, rfl, rfl, rfl, rfl⟩
    obtain ⟨fr', he, g3, g8, g9⟩ := he
    exact ⟨fr', t, H, loopN_outK hk he, g3, g8, g9, by simpa [insW] using o⟩
  | a :: rest, pre, b, out, t, H, j, fr, hl, hj, hn, o, hk => by
    obtain ⟨j, rfl⟩ : ∃ i, j = i + 1 := ⟨j - 1, by simp at hj; omega⟩
    simp only [List.length_cons] at hj hn
    obtain ⟨fr1, t1, H1, he, hk1, o1⟩ := round58 n h x all r hr hok s hbig rest pre a hl b out t H (by omega) o
    obtain ⟨fr', t', H', g1, g3, g8, g9, g⟩ := loop58 n h x all r hr hok s hbig rest (pre ++ [a]) (b || decide (cmpP r.to a.to < 0)) _ t1 H1 j fr1 (by rw [← hl]; simp) (by omega) (by simp only [List.length_append]; split <;> simp <;> omega) o1 (by rw [hk1]; simp)
    refine ⟨fr', t', H', ?_, g3, g8, ?_, ?_⟩
    · rw [loopN_stepK hk he]
      exact g1
    · rw [g9]
      cases b with
      | true => simp [insW]
      | false =>
        by_cases hc : cmpP r.to a.to < 0
        · simp [insW, hc]
        · simp [insW, hc]
    · cases b with
      | true =>
        simpa [insW] using g
      | false =>
        by_cases hc : cmpP r.to a.to < 0
        · simpa [insW, hc] using g
        · simpa [insW, hc] using g

theorem c58n (n : Nat) (h : Heap) (x : AV) (l : List Route) (r : Route) (hr : r.ok) (hok : ∀ i ∈ l, i.ok) (s : RV h x l) (hbig : l.length < 490) (hs : Sorted l) (hno : has l r.to = false) :
    ∃ b, call E (n + 501) 58 [x, r.av] h = some (.lit 20 b ((insAt l (pos l r.to) r).map Route.av), h, ⟨[], [], true⟩) := by
  have hlen := s.len
  have lr : AM.leafs r.av = 20 := Route.leafs hr
  have lrt : AM.leafs r.to.av = 18 := Pre.leafs hr.1
  have ir : isAggA r.av = true := rfl
  have irt : isAggA r.to.av = true := rfl
  have tr : isTupA r.av = false := rfl
  have hzl : leafsL (List.replicate 16 (AV.v (.int .u8 0))) = 16 := by kernel_rfl
  obtain ⟨fr', t', H', g1, g3, g8, g9, g⟩ := loop58 n h x l r hr hok s (by omega) l [] false [] nilS (h ++ [.row 20 0 [r.av] ⟨true, 58⟩]) (n + 500) [(0, x), (3, .ptr h.length 0 0 [] 0), (5, nilS), (6, .v (.bool false)), (7, .v (.int .i64 0))] rfl (by omega) (by simp; omega) (.inl ⟨rfl, .inl rfl, rfl⟩) rfl
  have hins := insF_eq hr hok hno
  simp only [List.nil_append] at g
  have hbx : H'[h.length]? = some (.row 20 0 [r.av] ⟨true, 58⟩) := by rw [g.old h.length (by simp)]; simp
  rw [← hins]
  unfold insF
  simp -implicitDefEqProofs only [simA, Nat.reduceAdd, Nat.reduceLT, Nat.reduceEqDiff, Nat.reduceLeDiff, Nat.reduceMul, Int.reduceBEq, Int.reduceBNe, Int.reduceLT, Int.reduceLE, Int.reduceAdd, Int.reduceSub, Int.reduceMul, Int.reduceNeg, Nat.reduceSub, Nat.reducePow, Nat.reduceDiv, Nat.reduceMod, ln_36, prs_58_6, fo_58_0, sz_55, agg_55, und_36, sz_58, agg_58, bs_36_1_58, ap_36_36, src_36, keep_58, E_masks, masks, rows_58, Tryz.f58] at g1
  rcases hb : (insW r false l).2 with _ | _
  · rw [hb] at g9
    obtain ⟨u1, K1, v1, d1, b1, hv1, p1⟩ := g.app r.av (idfree_route r)
    have hsl : sliceLen t' = some (insW r false l).1.length := by rw [g.len]; simp
    have hle := (insW_len r false l).1
    have hby : ((insW r false l).1.length + 1) * 48 ≤ 140737488355328 := by omega
    have hB : (h ++ [Row.row 20 0 [r.av] ⟨true, 58⟩]).length = h.length + 1 := by simp
    rw [hB] at hv1
    rcases p1 with ⟨h0, _⟩ | ⟨_, gg, rfl, rfl⟩
    · simp at h0
    · have hel := els_own (B := h ++ [.row 20 0 [r.av] ⟨true, 58⟩]) (k := 20) (g := gg) (els := ((insW r false l).1.map Route.av) ++ [r.av]) (ex := ⟨false, 58⟩)
      have hid : idfreeL (((insW r false l).1.map Route.av) ++ [r.av]) = true := by
        have := idfree_routes ((insW r false l).1 ++ [r])
        simpa using this
      simp only [List.append_assoc, List.cons_append, List.nil_append, hB] at hel
      refine ⟨false, ?_⟩
      rw [call_at (E := E) (f := 58) (fn := Tryz.f58) rfl Tryz.func58 rfl (Nat.le_of_ble_eq_true rfl)]
      rcases hv1 with rfl | rfl
      all_goals
        simp -implicitDefEqProofs only [simA, Nat.reduceAdd, Nat.reduceLT, Nat.reduceEqDiff, Nat.reduceLeDiff, Nat.reduceMul, Int.reduceBEq, Int.reduceBNe, Int.reduceLT, Int.reduceLE, Int.reduceAdd, Int.reduceSub, Int.reduceMul, Int.reduceNeg, Nat.reduceSub, Nat.reducePow, Nat.reduceDiv, Nat.reduceMod, ln_36, prs_58_6, fo_58_0, sz_55, agg_55, und_36, sz_58, agg_58, bs_36_1_58, ap_36_36, src_36, keep_58, E_masks, masks, rows_58, Tryz.f58, hlen, lr, lrt, ir, irt, tr, route_nav, hzl, g1, g3, g8, g9, hbx, hsl, hby, b1]
        simp only [List.length_append, List.length_cons, List.length_nil] at hel
        rw [hel]
        simp [hid, Zen]
  · rw [hb] at g9
    rcases g with ⟨h0, _⟩ | ⟨_, gg, rfl, rfl⟩
    · have h0' : (insW r false l).1 = [] := by simpa using h0
      unfold insF at hins
      rw [hb, if_pos rfl, h0'] at hins
      have := congrArg List.length hins
      rw [ins_len (pos_le l r.to)] at this
      simp at this
    · have hB : (h ++ [Row.row 20 0 [r.av] ⟨true, 58⟩]).length = h.length + 1 := by simp
      have hel := els_own (B := h ++ [.row 20 0 [r.av] ⟨true, 58⟩]) (k := 20) (g := gg) (els := ((insW r false l).1.map Route.av)) (ex := ⟨false, 58⟩)
      have hid := idfree_routes (insW r false l).1
      simp only [List.append_assoc, List.cons_append, List.nil_append, hB] at hel
      refine ⟨false, ?_⟩
      rw [call_at (E := E) (f := 58) (fn := Tryz.f58) rfl Tryz.func58 rfl (Nat.le_of_ble_eq_true rfl)]
      simp -implicitDefEqProofs only [simA, Nat.reduceAdd, Nat.reduceLT, Nat.reduceEqDiff, Nat.reduceLeDiff, Nat.reduceMul, Int.reduceBEq, Int.reduceBNe, Int.reduceLT, Int.reduceLE, Int.reduceAdd, Int.reduceSub, Int.reduceMul, Int.reduceNeg, Nat.reduceSub, Nat.reducePow, Nat.reduceDiv, Nat.reduceMod, ln_36, prs_58_6, fo_58_0, sz_55, agg_55, und_36, sz_58, agg_58, bs_36_1_58, ap_36_36, src_36, keep_58, E_masks, masks, rows_58, Tryz.f58, hlen, lr, lrt, ir, irt, tr, route_nav, hzl, g1, g3, g8, g9]
      rw [hel]
      simp [hid, Zen]

theorem c59n (n : Nat) (h : Heap) (x : AV) (l : List Route) (p : Pre) (hp : p.ok) (hok : ∀ i ∈ l, i.ok) (s : RV h x l) (hbig : l.length < 490) (hs : Sorted l) (hno : has l p = false) :
    call E (n + 501) 59 [x, p.av] h = some (x, h, ⟨[], [], true⟩) := by
  have lp : AM.leafs p.av = 18 := Pre.leafs hp
  have ip : isAggA p.av = true := rfl
  have tp : isTupA p.av = false := rfl
  have k60 := fun m => c60f m (h ++ [.row 18 0 [p.av] ⟨true, 55⟩]) x l p hp hok (s.push _) hbig hs
  have hf : findT l p = -1 := by simp [findT, hno]
  rw [hf] at k60
  rw [call_at (E := E) (f := 59) (fn := Tryz.f59) rfl Tryz.func59 rfl (Nat.le_of_ble_eq_true rfl)]
  simp -implicitDefEqProofs only [simA, Nat.reduceAdd, Nat.reduceLT, Nat.reduceEqDiff, Nat.reduceLeDiff, Nat.reduceMul, Int.reduceBEq, Int.reduceBNe, Int.reduceLT, Int.reduceLE, Int.reduceAdd, Int.reduceSub, Int.reduceMul, Int.reduceNeg, Nat.reduceSub, Nat.reducePow, Nat.reduceDiv, Nat.reduceMod, sz_55, agg_55, prs_59_4, bs_36_0_59, und_36, sz_58, ap_36_36, src_36, keep_59, E_masks, masks, rows_59, Tryz.f59, lp, ip, tp, k60, s.frz, Zen]

theorem c59t (n : Nat) (h : Heap) (x : AV) (l : List Route) (p : Pre) (hp : p.ok) (hok : ∀ i ∈ l, i.ok) (s : RV h x l) (hbig : l.length < 490) (hs : Sorted l) (hhas : has l p = true) :
    ∃ b, call E (n + 501) 59 [x, p.av] h = some (.lit 20 b ((delAt l (pos l p)).map Route.av), h, ⟨[], [], true⟩) := by
  have lp : AM.leafs p.av = 18 := Pre.leafs hp
  have ip : isAggA p.av = true := rfl
  have tp : isTupA p.av = false := rfl
  have k60 := fun m => c60f m (h ++ [.row 18 0 [p.av] ⟨true, 55⟩]) x l p hp hok (s.push _) hbig hs
  have hf : findT l p = ((pos l p : Nat) : Int) := by simp [findT, hhas]
  rw [hf] at k60
  obtain ⟨r0, hr0, hto⟩ := has_some hok hp hhas
  have hpl := (List.getElem?_eq_some_iff.1 hr0).1
  have hge : ¬ (((pos l p : Nat) : Int) < 0) := by omega
  have w1 := wrapN1 (n := pos l p) (by omega)
  have hby : (l.take (pos l p)).length * 48 ≤ 140737488355328 := by simp; omega
  have hby2 : ((l.take (pos l p)).length + (l.drop (pos l p + 1)).length) * 48 ≤ 140737488355328 := by simp; omega
  have hB : (h ++ [Row.row 18 0 [p.av] ⟨true, 55⟩]).length = h.length + 1 := by simp
  obtain ⟨x1, H1, c1, a1, hc1, o1, n1⟩ := OutG.app0 (B := h ++ [.row 18 0 [p.av] ⟨true, 55⟩]) (k := 20) (ty := 58) ((l.take (pos l p)).map Route.av)
  obtain ⟨x2, H2, s2, c2, a2, hs2, o2, n2⟩ := o1.appK n1 ((l.drop (pos l p + 1)).map Route.av) (idfree_routes _)
  have hdel : (l.take (pos l p)).map Route.av ++ (l.drop (pos l p + 1)).map Route.av = (delAt l (pos l p)).map Route.av := by simp [delAt]
  rw [hdel] at o2
  obtain ⟨b, hb⟩ := o2.frz n2 (idfree_routes _) (n0 := h.length) (by simp)
  have hsl1 : sliceLen x1 = some (l.take (pos l p)).length := by rw [o1.len]; simp
  rw [hB] at hs2 hc1
  refine ⟨b, ?_⟩
  have sH : RV (h ++ [.row 18 0 [p.av] ⟨true, 55⟩]) x l := s.push _
  have sH1 : RV H1 x l := s.stay fun id hid => by rw [o1.old id (by simp; omega), List.getElem?_append_left hid]
  have a1' : apO (h ++ [.row 18 0 [p.av] ⟨true, 55⟩]) 58 20 48 (.lit 20 true []) (some ((l.take (pos l p)).map Route.av)) = some (x1, H1, none, c1) := by
    rw [Zer, if_pos (by simp [sliceLen]; omega)]
    exact a1
  have a2' : apO H1 58 20 48 x1 (some ((l.drop (pos l p + 1)).map Route.av)) = some (x2, H2, s2, c2) := by
    rw [Zer, if_pos (by rw [hsl1]; simp; omega)]
    exact a2
  simp -implicitDefEqProofs only [simA, Nat.reduceAdd, Nat.reduceLT, Nat.reduceEqDiff, Nat.reduceLeDiff, Nat.reduceMul, Int.reduceBEq, Int.reduceBNe, Int.reduceLT, Int.reduceLE, Int.reduceAdd, Int.reduceSub, Int.reduceMul, Int.reduceNeg, Nat.reduceSub, Nat.reducePow, Nat.reduceDiv, Nat.reduceMod] at a1' a2'
  have hcc : ∀ id, id < h.length → decide (id = h.length + 1) = false := fun id hid => decide_eq_false (by omega)
  have hcc2 : ∀ id, id < h.length → decide (h.length + 1 = id) = false := fun id hid => decide_eq_false (by omega)
  rcases s with ⟨rfl, rfl⟩ | ⟨b', rfl⟩ | ⟨id, g, els, ex, rfl, hrow, ht⟩
  · simp at hpl
  · obtain ⟨b1, e1⟩ := lit_hi (h := h ++ [.row 18 0 [p.av] ⟨true, 55⟩]) (b := b') (l := l) (q := pos l p) (by omega)
    obtain ⟨b2, e2⟩ := lit_lo (h := H1) (b := b') (l := l) (q := pos l p + 1) (by omega)
    rw [call_at (E := E) (f := 59) (fn := Tryz.f59) rfl Tryz.func59 rfl (Nat.le_of_ble_eq_true rfl)]
    rcases hc1 with rfl | rfl <;> rcases hs2 with rfl | rfl
    · simp -implicitDefEqProofs only [simA, Nat.reduceAdd, Nat.reduceLT, Nat.reduceEqDiff, Nat.reduceLeDiff, Nat.reduceMul, Int.reduceBEq, Int.reduceBNe, Int.reduceLT, Int.reduceLE, Int.reduceAdd, Int.reduceSub, Int.reduceMul, Int.reduceNeg, Nat.reduceSub, Nat.reducePow, Nat.reduceDiv, Nat.reduceMod, sz_55, agg_55, prs_59_4, bs_36_0_59, und_36, sz_58, ap_36_36, src_36, keep_59, E_masks, masks, rows_59, Tryz.f59, lp, ip, tp, k60, hge, w1, e1, e2, a1', a2', hb, pairsOK, clsOf, compat]
    · simp -implicitDefEqProofs only [simA, Nat.reduceAdd, Nat.reduceLT, Nat.reduceEqDiff, Nat.reduceLeDiff, Nat.reduceMul, Int.reduceBEq, Int.reduceBNe, Int.reduceLT, Int.reduceLE, Int.reduceAdd, Int.reduceSub, Int.reduceMul, Int.reduceNeg, Nat.reduceSub, Nat.reducePow, Nat.reduceDiv, Nat.reduceMod, sz_55, agg_55, prs_59_4, bs_36_0_59, und_36, sz_58, ap_36_36, src_36, keep_59, E_masks, masks, rows_59, Tryz.f59, lp, ip, tp, k60, hge, w1, e1, e2, a1', a2', hb, pairsOK, clsOf, compat]
    · simp -implicitDefEqProofs only [simA, Nat.reduceAdd, Nat.reduceLT, Nat.reduceEqDiff, Nat.reduceLeDiff, Nat.reduceMul, Int.reduceBEq, Int.reduceBNe, Int.reduceLT, Int.reduceLE, Int.reduceAdd, Int.reduceSub, Int.reduceMul, Int.reduceNeg, Nat.reduceSub, Nat.reducePow, Nat.reduceDiv, Nat.reduceMod, sz_55, agg_55, prs_59_4, bs_36_0_59, und_36, sz_58, ap_36_36, src_36, keep_59, E_masks, masks, rows_59, Tryz.f59, lp, ip, tp, k60, hge, w1, e1, e2, a1', a2', hb, pairsOK, clsOf, compat]
    · simp -implicitDefEqProofs only [simA, Nat.reduceAdd, Nat.reduceLT, Nat.reduceEqDiff, Nat.reduceLeDiff, Nat.reduceMul, Int.reduceBEq, Int.reduceBNe, Int.reduceLT, Int.reduceLE, Int.reduceAdd, Int.reduceSub, Int.reduceMul, Int.reduceNeg, Nat.reduceSub, Nat.reducePow, Nat.reduceDiv, Nat.reduceMod, sz_55, agg_55, prs_59_4, bs_36_0_59, und_36, sz_58, ap_36_36, src_36, keep_59, E_masks, masks, rows_59, Tryz.f59, lp, ip, tp, k60, hge, w1, e1, e2, a1', a2', hb, pairsOK, clsOf, compat]
  · have hid := lt_of_getElem? hrow
    have hrowB : (h ++ [Row.row 18 0 [p.av] ⟨true, 55⟩])[id]? = some (.row 20 g els ex) := by rw [List.getElem?_append_left hid]; exact hrow
    have hrow1 : H1[id]? = some (.row 20 g els ex) := by rw [o1.old id (by simp; omega)]; exact hrowB
    have hle : l.length ≤ els.length := by
      have := congrArg List.length ht
      simp at this
      omega
    have e1 := tl_hi (q := pos l p) hrowB (n := l.length) (by omega) hle
    have e2 := tl_from (q := pos l p + 1) hrow1 (n := l.length) (by omega)
    have f1 : srS (h ++ [Row.row 18 0 [p.av] ⟨true, 55⟩]) 20 (.sl id g 0 (pos l p)) = some ((l.take (pos l p)).map Route.av) := by
      have h1 : pos l p ≤ els.length := by omega
      have h2 : els.take (pos l p) = (l.take (pos l p)).map Route.av := by
        have := congrArg (List.take (pos l p)) ht
        rw [List.take_take, Nat.min_eq_left (by omega), ← List.map_take] at this
        exact this
      rw [srS_sl]
      simp [elsOf, hrowB, bleE, h1, h2]
    have f2 : srS H1 20 (.sl id g (pos l p + 1) (l.length - (pos l p + 1))) = some ((l.drop (pos l p + 1)).map Route.av) := by
      have h1 : pos l p + 1 + (l.length - (pos l p + 1)) ≤ els.length := by omega
      have h2 : (els.drop (pos l p + 1)).take (l.length - (pos l p + 1)) = (l.drop (pos l p + 1)).map Route.av := by
        have := congrArg (List.drop (pos l p + 1)) ht
        rw [← List.map_drop, List.drop_take] at this
        exact this
      rw [srS_sl]
      simp [elsOf, hrow1, bleE, h1, h2]
    rw [call_at (E := E) (f := 59) (fn := Tryz.f59) rfl Tryz.func59 rfl (Nat.le_of_ble_eq_true rfl)]
    rcases hc1 with rfl | rfl <;> rcases hs2 with rfl | rfl
    · simp -implicitDefEqProofs only [simA, Nat.reduceAdd, Nat.reduceLT, Nat.reduceEqDiff, Nat.reduceLeDiff, Nat.reduceMul, Int.reduceBEq, Int.reduceBNe, Int.reduceLT, Int.reduceLE, Int.reduceAdd, Int.reduceSub, Int.reduceMul, Int.reduceNeg, Nat.reduceSub, Nat.reducePow, Nat.reduceDiv, Nat.reduceMod, sz_55, agg_55, prs_59_4, bs_36_0_59, und_36, sz_58, ap_36_36, src_36, keep_59, E_masks, masks, rows_59, Tryz.f59, lp, ip, tp, k60, hge, w1, e1, e2, f1, f2, a1', a2', hb, pairsOK, clsOf, compat]
    · simp -implicitDefEqProofs only [simA, Nat.reduceAdd, Nat.reduceLT, Nat.reduceEqDiff, Nat.reduceLeDiff, Nat.reduceMul, Int.reduceBEq, Int.reduceBNe, Int.reduceLT, Int.reduceLE, Int.reduceAdd, Int.reduceSub, Int.reduceMul, Int.reduceNeg, Nat.reduceSub, Nat.reducePow, Nat.reduceDiv, Nat.reduceMod, sz_55, agg_55, prs_59_4, bs_36_0_59, und_36, sz_58, ap_36_36, src_36, keep_59, E_masks, masks, rows_59, Tryz.f59, lp, ip, tp, k60, hge, w1, e1, e2, f1, f2, a1', a2', hb, pairsOK, clsOf, compat]
    · simp -implicitDefEqProofs only [simA, Nat.reduceAdd, Nat.reduceLT, Nat.reduceEqDiff, Nat.reduceLeDiff, Nat.reduceMul, Int.reduceBEq, Int.reduceBNe, Int.reduceLT, Int.reduceLE, Int.reduceAdd, Int.reduceSub, Int.reduceMul, Int.reduceNeg, Nat.reduceSub, Nat.reducePow, Nat.reduceDiv, Nat.reduceMod, sz_55, agg_55, prs_59_4, bs_36_0_59, und_36, sz_58, ap_36_36, src_36, keep_59, E_masks, masks, rows_59, Tryz.f59, lp, ip, tp, k60, hge, w1, e1, e2, f1, f2, a1', a2', hb, hcc id hid, hcc2 id hid, pairsOK, clsOf, compat]
    · simp -implicitDefEqProofs only [simA, Nat.reduceAdd, Nat.reduceLT, Nat.reduceEqDiff, Nat.reduceLeDiff, Nat.reduceMul, Int.reduceBEq, Int.reduceBNe, Int.reduceLT, Int.reduceLE, Int.reduceAdd, Int.reduceSub, Int.reduceMul, Int.reduceNeg, Nat.reduceSub, Nat.reducePow, Nat.reduceDiv, Nat.reduceMod, sz_55, agg_55, prs_59_4, bs_36_0_59, und_36, sz_58, ap_36_36, src_36, keep_59, E_masks, masks, rows_59, Tryz.f59, lp, ip, tp, k60, hge, w1, e1, e2, f1, f2, a1', a2', hb, hcc id hid, hcc2 id hid, pairsOK, clsOf, compat]

end Go.Proofs.YtobdjegooonklaaGreat
