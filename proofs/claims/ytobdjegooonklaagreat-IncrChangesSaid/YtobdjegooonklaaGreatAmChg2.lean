/- The changes between two tables: a round: by a program. Conditions: none. -/
import Derived.Test.YtobdjegooonklaaGreatAmChg1
set_option linter.unusedSimpArgs false
set_option linter.unusedVariables false
set_option maxRecDepth 100000
set_option maxHeartbeats 1000000
namespace Go.Proofs.YtobdjegooonklaaGreat
open Go Go.AM

theorem out_key {m0 n0 : Nat} {H : Heap} {out : List Inc} {t4 : AV} (hm0 : m0 ≤ H.length) (hn0 : n0 ≤ m0) (hol : out.length < 480) (o : OutI m0 H (out.map Inc.av) t4) (i : Inc) : ∃ x' H' s c, appendTo H 60 21 t4 [i.av] = some (x', H', s, c) ∧ (s = none ∨ ∃ id, ¬ id < n0 ∧ s = some (id, false)) ∧ OutI m0 H' ((out ++ [i]).map Inc.av) x' ∧ m0 ≤ H'.length ∧ (∀ j, j < m0 → H'[j]? = H[j]?) := by
  obtain ⟨x', H', s, c, b1, b2, b3, b4, b5⟩ := o.app hm0 i.av (idfree_inc i)
  refine ⟨x', H', s, c, b1, ?_, by rw [List.map_append]; exact b3, b4, b5⟩
  rcases b2 with h | ⟨id, h1, h2⟩
  · exact .inl h
  · exact .inr ⟨id, by omega, h2⟩

theorem round24a (n n0 m0 : Nat) (H : Heap) (t4 x y : AV) (out : List Inc) (hn0 : n0 ≤ m0) (hm0 : m0 ≤ H.length) (hol : out.length < 480) (o : OutI m0 H (out.map Inc.av) t4) (hxm : ∀ id g off n, x = .sl id g off n → id < m0) (hym : ∀ id g off n, y = .sl id g off n → id < m0) (b : Route) (lb : List Route) (hb : b.ok) (rx : Rem H x []) (ry : Rem H y (b :: lb)) : ∃ fr' H' t' x' y', exec E (call E (n + 502)) (n + 502) 24 80 n0 (loopB Tryz.f24 0) ⟨[(4, t4), (5, x), (6, y)], H, [], []⟩ = some (.normal, ⟨fr', H', [], []⟩) ∧ keepF (masks 24) fr' = [(4, t'), (5, x'), (6, y')] ∧ OutI m0 H' ((out ++ [(⟨1, b⟩ : Inc)]).map Inc.av) t' ∧ Rem H' x' ([]) ∧ Rem H' y' (lb) ∧ m0 ≤ H'.length ∧ (∀ j, j < m0 → H'[j]? = H[j]?) ∧ (∀ id g off n, x' = .sl id g off n → id < m0) ∧ (∀ id g off n, y' = .sl id g off n → id < m0) := by
  have lx := rx.len
  simp only [List.length_nil] at lx
  rcases ry with ⟨h0, _⟩ | ⟨_, id, g, off, els, ex, rfl, hr, hd⟩
  · cases h0
  obtain ⟨e1, e2, y', e3, e4, e5⟩ := rem_at hr hd
  have hlb : AM.leafs b.av = 20 := Route.leafs hb
  have hib : isAggA b.av = true := rfl
  have htb : isTupA b.av = false := rfl
  have hsl : sliceLen t4 = some out.length := by rw [o.len]; simp
  have hby : (out.length + 1) * 56 ≤ 140737488355328 := by omega
  have p1 : (0 : Int) < ((lb.length + 1 : Nat) : Int) := by omega
  have hzl : leafsL (List.replicate 16 (AV.v (.int .u8 0))) = 16 := by kernel_rfl
  obtain ⟨t1, H1, s1, c1, b1, b2, b3, b4, b5⟩ := out_key (n0 := n0) hm0 hn0 hol o ⟨1, b⟩
  have b1' : appendTo H 60 21 t4 [.agg [.v (.int .i64 1), b.av]] = some (t1, H1, s1, c1) := b1
  have hid := hym _ _ _ _ rfl
  have e3' : sliceE E.P H1 36 (.sl id g off (lb.length + 1)) (some (.v (.int .i64 1))) none none = some y' := by
    obtain ⟨_, _, y2, q3, _⟩ := rem_at (H := H1) (by rw [b5 id hid]; exact hr) hd
    rw [← e3]; simp [sliceE, und_36, sz_58, hr, b5 id hid]
  rw [exec_code]
  rcases b2 with rfl | ⟨id1, hd1, rfl⟩
  · simp -implicitDefEqProofs only [simA, Nat.reduceAdd, Nat.reduceLT, Nat.reduceEqDiff, Nat.reduceLeDiff, Nat.reduceMul, Int.reduceBEq, Int.reduceBNe, Int.reduceLT, Int.reduceLE, Int.reduceAdd, Int.reduceSub, Int.reduceMul, Int.reduceNeg, Nat.reduceSub, Nat.reducePow, Nat.reduceDiv, Nat.reduceMod, ln_36, prs_24_4, und_36, sz_58, fo_58_0, sz_55, agg_55, bd_58, bd_60, bs_22_1_24, ap_22_22, src_22, agg_58, prs_24_9, keep_24, E_masks, masks, rows_24, Tryz.f24, lx, e1, e2, hr, e3, e3', hlb, hib, htb, hsl, hby, hzl, p1, b1', pairsOK, clsOf, compat]
    exact ⟨_, _, _, _, _, rfl, rfl, b3, .inl ⟨rfl, lx⟩, e4.stay (fun i g' o n h => by rw [e5 i g' o n h]; exact hid) b5, b4, b5, hxm, fun i g' o n h => by rw [e5 i g' o n h]; exact hid⟩
  · simp -implicitDefEqProofs only [simA, Nat.reduceAdd, Nat.reduceLT, Nat.reduceEqDiff, Nat.reduceLeDiff, Nat.reduceMul, Int.reduceBEq, Int.reduceBNe, Int.reduceLT, Int.reduceLE, Int.reduceAdd, Int.reduceSub, Int.reduceMul, Int.reduceNeg, Nat.reduceSub, Nat.reducePow, Nat.reduceDiv, Nat.reduceMod, ln_36, prs_24_4, und_36, sz_58, fo_58_0, sz_55, agg_55, bd_58, bd_60, bs_22_1_24, ap_22_22, src_22, agg_58, prs_24_9, keep_24, E_masks, masks, rows_24, Tryz.f24, hd1, lx, e1, e2, hr, e3, e3', hlb, hib, htb, hsl, hby, hzl, p1, b1', pairsOK, clsOf, compat]
    exact ⟨_, _, _, _, _, rfl, rfl, b3, .inl ⟨rfl, lx⟩, e4.stay (fun i g' o n h => by rw [e5 i g' o n h]; exact hid) b5, b4, b5, hxm, fun i g' o n h => by rw [e5 i g' o n h]; exact hid⟩
theorem round24b (n n0 m0 : Nat) (H : Heap) (t4 x y : AV) (out : List Inc) (hn0 : n0 ≤ m0) (hm0 : m0 ≤ H.length) (hol : out.length < 480) (o : OutI m0 H (out.map Inc.av) t4) (hxm : ∀ id g off n, x = .sl id g off n → id < m0) (hym : ∀ id g off n, y = .sl id g off n → id < m0) (a : Route) (la lb : List Route) (ha : a.ok) (rx : Rem H x (a :: la)) (ry : Rem H y lb) (hc : lb = [] ∨ ∃ b l, lb = b :: l ∧ b.ok ∧ cmpP a.to b.to < 0) : ∃ fr' H' t' x' y', exec E (call E (n + 502)) (n + 502) 24 80 n0 (loopB Tryz.f24 0) ⟨[(4, t4), (5, x), (6, y)], H, [], []⟩ = some (.normal, ⟨fr', H', [], []⟩) ∧ keepF (masks 24) fr' = [(4, t'), (5, x'), (6, y')] ∧ OutI m0 H' ((out ++ [(⟨3, bare a.to⟩ : Inc)]).map Inc.av) t' ∧ Rem H' x' (la) ∧ Rem H' y' (lb) ∧ m0 ≤ H'.length ∧ (∀ j, j < m0 → H'[j]? = H[j]?) ∧ (∀ id g off n, x' = .sl id g off n → id < m0) ∧ (∀ id g off n, y' = .sl id g off n → id < m0) := by
  rcases rx with ⟨h0, _⟩ | ⟨_, id, g, off, els, ex, rfl, hr, hd⟩
  · cases h0
  obtain ⟨e1, e2, x', e3, e4, e5⟩ := rem_at hr hd
  have hlb : AM.leafs a.to.av = 18 := Pre.leafs ha.1
  have hib : isAggA a.to.av = true := rfl
  have htb : isTupA a.to.av = false := rfl
  have hsl : sliceLen t4 = some out.length := by rw [o.len]; simp
  have hby : (out.length + 1) * 56 ≤ 140737488355328 := by omega
  have hzl : leafsL (List.replicate 16 (AV.v (.int .u8 0))) = 16 := by kernel_rfl
  have p1 : (0 : Int) < ((la.length + 1 : Nat) : Int) := by omega
  have p2 : (((la.length + 1 : Nat) : Int) == 0) = false := by simp; omega
  obtain ⟨t1, H1, s1, c1, b1, b2, b3, b4, b5⟩ := out_key (n0 := n0) hm0 hn0 hol o ⟨3, bare a.to⟩
  have b1' : appendTo H 60 21 t4 [.agg [.v (.int .i64 3), .agg [a.to.av, .v (.int .i64 0), .v (.int .u32 0)]]] = some (t1, H1, s1, c1) := b1
  have hid := hxm _ _ _ _ rfl
  have e3' : sliceE E.P H1 36 (.sl id g off (la.length + 1)) (some (.v (.int .i64 1))) none none = some x' := by
    rw [← e3]; simp [sliceE, und_36, sz_58, hr, b5 id hid]
  rw [exec_code]
  rcases hc with rfl | ⟨b, l, rfl, hbo, hlt⟩
  · have ly := ry.len
    simp only [List.length_nil] at ly
    rcases b2 with rfl | ⟨id1, hd1, rfl⟩
    · simp -implicitDefEqProofs only [simA, Nat.reduceAdd, Nat.reduceLT, Nat.reduceEqDiff, Nat.reduceLeDiff, Nat.reduceMul, Int.reduceBEq, Int.reduceBNe, Int.reduceLT, Int.reduceLE, Int.reduceAdd, Int.reduceSub, Int.reduceMul, Int.reduceNeg, Nat.reduceSub, Nat.reducePow, Nat.reduceDiv, Nat.reduceMod, ln_36, prs_24_4, und_36, sz_58, fo_58_0, sz_55, agg_55, bd_58, bd_60, bs_22_1_24, ap_22_22, src_22, agg_58, prs_24_9, keep_24, E_masks, masks, rows_24, Tryz.f24, ly, e1, e2, hr, e3, e3', route_nav, hlb, hib, htb, hsl, hby, hzl, p1, p2, b1', pairsOK, clsOf, compat]
      exact ⟨_, _, _, _, _, rfl, rfl, b3, e4.stay (fun i g' o n h => by rw [e5 i g' o n h]; exact hid) b5, .inl ⟨rfl, ly⟩, b4, b5, fun i g' o n h => by rw [e5 i g' o n h]; exact hid, hym⟩
    · simp -implicitDefEqProofs only [simA, Nat.reduceAdd, Nat.reduceLT, Nat.reduceEqDiff, Nat.reduceLeDiff, Nat.reduceMul, Int.reduceBEq, Int.reduceBNe, Int.reduceLT, Int.reduceLE, Int.reduceAdd, Int.reduceSub, Int.reduceMul, Int.reduceNeg, Nat.reduceSub, Nat.reducePow, Nat.reduceDiv, Nat.reduceMod, ln_36, prs_24_4, und_36, sz_58, fo_58_0, sz_55, agg_55, bd_58, bd_60, bs_22_1_24, ap_22_22, src_22, agg_58, prs_24_9, keep_24, E_masks, masks, rows_24, Tryz.f24, hd1, ly, e1, e2, hr, e3, e3', route_nav, hlb, hib, htb, hsl, hby, hzl, p1, p2, b1', pairsOK, clsOf, compat]
      exact ⟨_, _, _, _, _, rfl, rfl, b3, e4.stay (fun i g' o n h => by rw [e5 i g' o n h]; exact hid) b5, .inl ⟨rfl, ly⟩, b4, b5, fun i g' o n h => by rw [e5 i g' o n h]; exact hid, hym⟩
  · have hlb2 : AM.leafs b.to.av = 18 := Pre.leafs hbo.1
    have hib2 : isAggA b.to.av = true := rfl
    have kc := fun m H => c49 m a.to b.to ha.1.1 hbo.1.1 H
    have hdl : decide (cmpP a.to b.to < 0) = true := decide_eq_true hlt
    have ry0 := ry
    rcases ry with ⟨h0, _⟩ | ⟨_, id2, g2, off2, els2, ex2, rfl, hr2, hd2⟩
    · cases h0
    obtain ⟨f1, f2, y', f3, f4, f5⟩ := rem_at hr2 hd2
    have p3 : (((l.length + 1 : Nat) : Int) == 0) = false := by simp; omega
    rcases b2 with rfl | ⟨id1, hd1, rfl⟩
    · simp -implicitDefEqProofs only [simA, Nat.reduceAdd, Nat.reduceLT, Nat.reduceEqDiff, Nat.reduceLeDiff, Nat.reduceMul, Int.reduceBEq, Int.reduceBNe, Int.reduceLT, Int.reduceLE, Int.reduceAdd, Int.reduceSub, Int.reduceMul, Int.reduceNeg, Nat.reduceSub, Nat.reducePow, Nat.reduceDiv, Nat.reduceMod, ln_36, prs_24_4, und_36, sz_58, fo_58_0, sz_55, agg_55, bd_58, bd_60, bs_22_1_24, ap_22_22, src_22, agg_58, prs_24_9, keep_24, E_masks, masks, rows_24, Tryz.f24, e1, e2, hr, e3, e3', f1, f2, hr2, route_nav, hlb, hib, htb, hlb2, hib2, hsl, hby, hzl, p1, p2, p3, kc, hdl, b1', pairsOK, clsOf, compat]
      exact ⟨_, _, _, _, _, rfl, rfl, b3, e4.stay (fun i g' o n h => by rw [e5 i g' o n h]; exact hid) b5, ry0.stay hym b5, b4, b5, fun i g' o n h => by rw [e5 i g' o n h]; exact hid, hym⟩
    · simp -implicitDefEqProofs only [simA, Nat.reduceAdd, Nat.reduceLT, Nat.reduceEqDiff, Nat.reduceLeDiff, Nat.reduceMul, Int.reduceBEq, Int.reduceBNe, Int.reduceLT, Int.reduceLE, Int.reduceAdd, Int.reduceSub, Int.reduceMul, Int.reduceNeg, Nat.reduceSub, Nat.reducePow, Nat.reduceDiv, Nat.reduceMod, ln_36, prs_24_4, und_36, sz_58, fo_58_0, sz_55, agg_55, bd_58, bd_60, bs_22_1_24, ap_22_22, src_22, agg_58, prs_24_9, keep_24, E_masks, masks, rows_24, Tryz.f24, hd1, e1, e2, hr, e3, e3', f1, f2, hr2, route_nav, hlb, hib, htb, hlb2, hib2, hsl, hby, hzl, p1, p2, p3, kc, hdl, b1', pairsOK, clsOf, compat]
      exact ⟨_, _, _, _, _, rfl, rfl, b3, e4.stay (fun i g' o n h => by rw [e5 i g' o n h]; exact hid) b5, ry0.stay hym b5, b4, b5, fun i g' o n h => by rw [e5 i g' o n h]; exact hid, hym⟩
theorem round24c (n n0 m0 : Nat) (H : Heap) (t4 x y : AV) (out : List Inc) (hn0 : n0 ≤ m0) (hm0 : m0 ≤ H.length) (hol : out.length < 480) (o : OutI m0 H (out.map Inc.av) t4) (hxm : ∀ id g off n, x = .sl id g off n → id < m0) (hym : ∀ id g off n, y = .sl id g off n → id < m0) (a b : Route) (la lb : List Route) (ha : a.ok) (hb : b.ok) (rx : Rem H x (a :: la)) (ry : Rem H y (b :: lb)) (hge : ¬ cmpP a.to b.to < 0) : ∃ fr' H' t' x' y', exec E (call E (n + 502)) (n + 502) 24 80 n0 (loopB Tryz.f24 0) ⟨[(4, t4), (5, x), (6, y)], H, [], []⟩ = some (.normal, ⟨fr', H', [], []⟩) ∧ keepF (masks 24) fr' = [(4, t'), (5, x'), (6, y')] ∧ OutI m0 H' ((out ++ (if 0 < cmpP a.to b.to then [(⟨1, b⟩ : Inc)] else if a = b then [] else [(⟨2, b⟩ : Inc)])).map Inc.av) t' ∧ Rem H' x' (if 0 < cmpP a.to b.to then a :: la else la) ∧ Rem H' y' (lb) ∧ m0 ≤ H'.length ∧ (∀ j, j < m0 → H'[j]? = H[j]?) ∧ (∀ id g off n, x' = .sl id g off n → id < m0) ∧ (∀ id g off n, y' = .sl id g off n → id < m0) := by
  have rx0 := rx
  rcases rx with ⟨h0, _⟩ | ⟨_, id, g, off, els, ex, rfl, hr, hd⟩
  · cases h0
  rcases ry with ⟨h0, _⟩ | ⟨_, id2, g2, off2, els2, ex2, rfl, hr2, hd2⟩
  · cases h0
  obtain ⟨e1, e2, x', e3, e4, e5⟩ := rem_at hr hd
  obtain ⟨f1, f2, y', f3, f4, f5⟩ := rem_at hr2 hd2
  have la1 : AM.leafs a.to.av = 18 := Pre.leafs ha.1
  have la2 : AM.leafs a.av = 20 := Route.leafs ha
  have lb1 : AM.leafs b.to.av = 18 := Pre.leafs hb.1
  have lb2 : AM.leafs b.av = 20 := Route.leafs hb
  have ia1 : ∀ p : Pre, isAggA p.av = true := fun _ => rfl
  have ia2 : ∀ p : Route, isAggA p.av = true := fun _ => rfl
  have it2 : ∀ p : Route, isTupA p.av = false := fun _ => rfl
  have hsl : sliceLen t4 = some out.length := by rw [o.len]; simp
  have hby : (out.length + 1) * 56 ≤ 140737488355328 := by omega
  have p1 : (0 : Int) < ((la.length + 1 : Nat) : Int) := by omega
  have p2 : (((la.length + 1 : Nat) : Int) == 0) = false := by simp; omega
  have p3 : (((lb.length + 1 : Nat) : Int) == 0) = false := by simp; omega
  have kc := fun m H => c49 m a.to b.to ha.1.1 hb.1.1 H
  have hdl : decide (cmpP a.to b.to < 0) = false := decide_eq_false hge
  have hzl : leafsL (List.replicate 16 (AV.v (.int .u8 0))) = 16 := by kernel_rfl
  have hid := hxm _ _ _ _ rfl
  have hid2 := hym _ _ _ _ rfl
  rw [exec_code]
  by_cases hgt : 0 < cmpP a.to b.to
  · have hdg : decide (0 < cmpP a.to b.to) = true := decide_eq_true hgt
    simp only [if_pos hgt]
    obtain ⟨t1, H1, s1, c1, b1, b2, b3, b4, b5⟩ := out_key (n0 := n0) hm0 hn0 hol o ⟨1, b⟩
    have b1' : appendTo H 60 21 t4 [.agg [.v (.int .i64 1), b.av]] = some (t1, H1, s1, c1) := b1
    have f3' : sliceE E.P H1 36 (.sl id2 g2 off2 (lb.length + 1)) (some (.v (.int .i64 1))) none none = some y' := by
      rw [← f3]; simp [sliceE, und_36, sz_58, hr2, b5 id2 hid2]
    rcases b2 with rfl | ⟨id1, hd1, rfl⟩
    · simp -implicitDefEqProofs only [simA, Nat.reduceAdd, Nat.reduceLT, Nat.reduceEqDiff, Nat.reduceLeDiff, Nat.reduceMul, Int.reduceBEq, Int.reduceBNe, Int.reduceLT, Int.reduceLE, Int.reduceAdd, Int.reduceSub, Int.reduceMul, Int.reduceNeg, Nat.reduceSub, Nat.reducePow, Nat.reduceDiv, Nat.reduceMod, ln_36, prs_24_4, und_36, sz_58, fo_58_0, sz_55, agg_55, bd_58, bd_60, bs_22_1_24, ap_22_22, src_22, agg_58, prs_24_9, keep_24, E_masks, masks, rows_24, Tryz.f24, hzl, e1, e2, hr, e3, f1, f2, hr2, f3, route_nav, la1, la2, lb1, lb2, ia1, ia2, it2, hsl, hby, p1, p2, p3, kc, hdl, hdg, f3', b1', pairsOK, clsOf, compat]
      exact ⟨_, _, _, _, _, rfl, rfl, b3, rx0.stay hxm b5, f4.stay (fun i g' o n h => by rw [f5 i g' o n h]; exact hid2) b5, b4, b5, hxm, fun i g' o n h => by rw [f5 i g' o n h]; exact hid2⟩
    · simp -implicitDefEqProofs only [simA, Nat.reduceAdd, Nat.reduceLT, Nat.reduceEqDiff, Nat.reduceLeDiff, Nat.reduceMul, Int.reduceBEq, Int.reduceBNe, Int.reduceLT, Int.reduceLE, Int.reduceAdd, Int.reduceSub, Int.reduceMul, Int.reduceNeg, Nat.reduceSub, Nat.reducePow, Nat.reduceDiv, Nat.reduceMod, ln_36, prs_24_4, und_36, sz_58, fo_58_0, sz_55, agg_55, bd_58, bd_60, bs_22_1_24, ap_22_22, src_22, agg_58, prs_24_9, keep_24, E_masks, masks, rows_24, Tryz.f24, hd1, hzl, e1, e2, hr, e3, f1, f2, hr2, f3, route_nav, la1, la2, lb1, lb2, ia1, ia2, it2, hsl, hby, p1, p2, p3, kc, hdl, hdg, f3', b1', pairsOK, clsOf, compat]
      exact ⟨_, _, _, _, _, rfl, rfl, b3, rx0.stay hxm b5, f4.stay (fun i g' o n h => by rw [f5 i g' o n h]; exact hid2) b5, b4, b5, hxm, fun i g' o n h => by rw [f5 i g' o n h]; exact hid2⟩
  · have hdg : decide (0 < cmpP a.to b.to) = false := decide_eq_false hgt
    simp only [if_neg hgt]
    have heq := fun ox oy => ne58 (ox := ox) (oy := oy) ha hb
    by_cases hab : a = b
    · have hdn : (!decide (a = b)) = false := by simp [hab]
      simp only [if_pos hab]
      simp -implicitDefEqProofs only [simA, Nat.reduceAdd, Nat.reduceLT, Nat.reduceEqDiff, Nat.reduceLeDiff, Nat.reduceMul, Int.reduceBEq, Int.reduceBNe, Int.reduceLT, Int.reduceLE, Int.reduceAdd, Int.reduceSub, Int.reduceMul, Int.reduceNeg, Nat.reduceSub, Nat.reducePow, Nat.reduceDiv, Nat.reduceMod, ln_36, prs_24_4, und_36, sz_58, fo_58_0, sz_55, agg_55, bd_58, bd_60, bs_22_1_24, ap_22_22, src_22, agg_58, prs_24_9, keep_24, E_masks, masks, rows_24, Tryz.f24, hzl, e1, e2, hr, e3, f1, f2, hr2, f3, route_nav, la1, la2, lb1, lb2, ia1, ia2, it2, hsl, hby, p1, p2, p3, kc, hdl, hdg, heq, hdn, pairsOK, clsOf, compat]
      exact ⟨_, _, _, _, _, rfl, rfl, by simpa using o, e4, f4, hm0, fun _ _ => rfl, fun i g' o n h => by rw [e5 i g' o n h]; exact hid, fun i g' o n h => by rw [f5 i g' o n h]; exact hid2⟩
    · have hdn : (!decide (a = b)) = true := by simp [hab]
      simp only [if_neg hab]
      obtain ⟨t1, H1, s1, c1, b1, b2, b3, b4, b5⟩ := out_key (n0 := n0) hm0 hn0 hol o ⟨2, b⟩
      have b1' : appendTo H 60 21 t4 [.agg [.v (.int .i64 2), b.av]] = some (t1, H1, s1, c1) := b1
      have e3' : sliceE E.P H1 36 (.sl id g off (la.length + 1)) (some (.v (.int .i64 1))) none none = some x' := by
        rw [← e3]; simp [sliceE, und_36, sz_58, hr, b5 id hid]
      have f3' : sliceE E.P H1 36 (.sl id2 g2 off2 (lb.length + 1)) (some (.v (.int .i64 1))) none none = some y' := by
        rw [← f3]; simp [sliceE, und_36, sz_58, hr2, b5 id2 hid2]
      rcases b2 with rfl | ⟨id1, hd1, rfl⟩
      · simp -implicitDefEqProofs only [simA, Nat.reduceAdd, Nat.reduceLT, Nat.reduceEqDiff, Nat.reduceLeDiff, Nat.reduceMul, Int.reduceBEq, Int.reduceBNe, Int.reduceLT, Int.reduceLE, Int.reduceAdd, Int.reduceSub, Int.reduceMul, Int.reduceNeg, Nat.reduceSub, Nat.reducePow, Nat.reduceDiv, Nat.reduceMod, ln_36, prs_24_4, und_36, sz_58, fo_58_0, sz_55, agg_55, bd_58, bd_60, bs_22_1_24, ap_22_22, src_22, agg_58, prs_24_9, keep_24, E_masks, masks, rows_24, Tryz.f24, hzl, e1, e2, hr, e3, f1, f2, hr2, f3, route_nav, la1, la2, lb1, lb2, ia1, ia2, it2, hsl, hby, p1, p2, p3, kc, hdl, hdg, heq, hdn, e3', f3', b1', pairsOK, clsOf, compat]
        exact ⟨_, _, _, _, _, rfl, rfl, b3, e4.stay (fun i g' o n h => by rw [e5 i g' o n h]; exact hid) b5, f4.stay (fun i g' o n h => by rw [f5 i g' o n h]; exact hid2) b5, b4, b5, fun i g' o n h => by rw [e5 i g' o n h]; exact hid, fun i g' o n h => by rw [f5 i g' o n h]; exact hid2⟩
      · simp -implicitDefEqProofs only [simA, Nat.reduceAdd, Nat.reduceLT, Nat.reduceEqDiff, Nat.reduceLeDiff, Nat.reduceMul, Int.reduceBEq, Int.reduceBNe, Int.reduceLT, Int.reduceLE, Int.reduceAdd, Int.reduceSub, Int.reduceMul, Int.reduceNeg, Nat.reduceSub, Nat.reducePow, Nat.reduceDiv, Nat.reduceMod, ln_36, prs_24_4, und_36, sz_58, fo_58_0, sz_55, agg_55, bd_58, bd_60, bs_22_1_24, ap_22_22, src_22, agg_58, prs_24_9, keep_24, E_masks, masks, rows_24, Tryz.f24, hd1, hzl, e1, e2, hr, e3, f1, f2, hr2, f3, route_nav, la1, la2, lb1, lb2, ia1, ia2, it2, hsl, hby, p1, p2, p3, kc, hdl, hdg, heq, hdn, e3', f3', b1', pairsOK, clsOf, compat]
        exact ⟨_, _, _, _, _, rfl, rfl, b3, e4.stay (fun i g' o n h => by rw [e5 i g' o n h]; exact hid) b5, f4.stay (fun i g' o n h => by rw [f5 i g' o n h]; exact hid2) b5, b4, b5, fun i g' o n h => by rw [e5 i g' o n h]; exact hid, fun i g' o n h => by rw [f5 i g' o n h]; exact hid2⟩

end Go.Proofs.YtobdjegooonklaaGreat
