/- The order of prefixes: by gen_cmp.py. Conditions: none. -/
import Derived.Test.YtobdjegooonklaaGreatAmFacts
import Derived.Test.YtobdjegooonklaaGreatAmOrd
set_option linter.unusedSimpArgs false
set_option linter.unusedVariables false
namespace Go.Proofs.YtobdjegooonklaaGreat
open Go Go.AM

theorem ov_109 : E.ov 109 = some ovBytesCompare := rfl
theorem c108 (n : Nat) (a : Int) (h : Heap) : call E (n + 500) 108 [.v (.int .i64 a)] h = some (.v (.bool false), h, ⟨[], [], true⟩) := by
  rw [call_at (E := E) (f := 108) (fn := Tryz.f108) rfl Tryz.func108 rfl (Nat.le_of_ble_eq_true rfl)]
  have : (a != a) = false := by simp
  simp -implicitDefEqProofs only [simA, Nat.reduceAdd, Nat.reduceLT, Nat.reduceEqDiff, Nat.reduceLeDiff, Nat.reduceMul, Int.reduceBEq, Int.reduceBNe, Int.reduceLT, Int.reduceLE, Int.reduceAdd, Int.reduceSub, Int.reduceMul, Int.reduceNeg, Nat.reduceSub, Nat.reducePow, Nat.reduceDiv, Nat.reduceMod, keep_108, E_masks, masks, rows_108, Tryz.f108, this]
theorem c87 (n : Nat) (a b : Int) (h : Heap) : call E (n + 501) 87 [.v (.int .i64 a), .v (.int .i64 b)] h = some (.v (.int .i64 (cmpI a b)), h, ⟨[], [], true⟩) := by
  rw [call_at (E := E) (f := 87) (fn := Tryz.f87) rfl Tryz.func87 rfl (Nat.le_of_ble_eq_true rfl)]
  by_cases h1 : a < b
  · simp -implicitDefEqProofs only [simA, Nat.reduceAdd, Nat.reduceLT, Nat.reduceEqDiff, Nat.reduceLeDiff, Nat.reduceMul, Int.reduceBEq, Int.reduceBNe, Int.reduceLT, Int.reduceLE, Int.reduceAdd, Int.reduceSub, Int.reduceMul, Int.reduceNeg, Nat.reduceSub, Nat.reducePow, Nat.reduceDiv, Nat.reduceMod, keep_87, E_masks, masks, rows_87, Tryz.f87, c108, h1, cmpI, decide_true, if_true]
  · by_cases h2 : b < a <;> simp -implicitDefEqProofs only [simA, Nat.reduceAdd, Nat.reduceLT, Nat.reduceEqDiff, Nat.reduceLeDiff, Nat.reduceMul, Int.reduceBEq, Int.reduceBNe, Int.reduceLT, Int.reduceLE, Int.reduceAdd, Int.reduceSub, Int.reduceMul, Int.reduceNeg, Nat.reduceSub, Nat.reducePow, Nat.reduceDiv, Nat.reduceMod, keep_87, E_masks, masks, rows_87, Tryz.f87, c108, h1, h2, cmpI, decide_true, decide_false, if_true, if_false]
theorem c109 (n : Nat) (x y : AV) (s t : ByteArray) (h : Heap) (hx : strOf h x = some s) (hy : strOf h y = some t) : call E (n + 1) 109 [x, y] h = some (.v (.int .i64 (Extern.BytealgCompare.cmp s t)), h, ⟨[], [], true⟩) := by
  simp only [call, ov_109, ovBytesCompare, hx, hy]
theorem c88 (n : Nat) (x y : AV) (s t : ByteArray) (h : Heap) (hx : strOf h x = some s) (hy : strOf h y = some t) : call E (n + 501) 88 [x, y] h = some (.v (.int .i64 (Extern.BytealgCompare.cmp s t)), h, ⟨[], [], true⟩) := by
  rw [call_at (E := E) (f := 88) (fn := Tryz.f88) rfl Tryz.func88 rfl (Nat.le_of_ble_eq_true rfl)]
  have := c109 (n + 499) x y s t h hx hy
  simp -implicitDefEqProofs only [simA, Nat.reduceAdd, Nat.reduceLT, Nat.reduceEqDiff, Nat.reduceLeDiff, Nat.reduceMul, Int.reduceBEq, Int.reduceBNe, Int.reduceLT, Int.reduceLE, Int.reduceAdd, Int.reduceSub, Int.reduceMul, Int.reduceNeg, Nat.reduceSub, Nat.reducePow, Nat.reduceDiv, Nat.reduceMod, keep_88, E_masks, masks, rows_88, Tryz.f88, this]
theorem round86 (n : Nat) (l : List AV) (i : Nat) (x : Int) (b : Bool) (h : Heap) (hi : l[i]? = some (.v (.int .i64 x))) (hl : l.length < 1000) :
    ∃ fr, exec E (call E (n + 499)) (n + 499) 86 18 h.length (loopB Tryz.f86 0) ⟨[(3, .v (.int .i64 0)), (6, .lit 1 b l), (7, .v (.int .i64 (l.length : Nat))), (8, .v (.int .i64 i))], h, [], []⟩ = some (if x = 0 then .normal else .ret, ⟨fr, h, [], []⟩) ∧
      (x = 0 → keepF (masks 86) fr = [(3, .v (.int .i64 0)), (6, .lit 1 b l), (7, .v (.int .i64 (l.length : Nat))), (8, .v (.int .i64 ((i + 1 : Nat) : Int)))]) ∧ (x ≠ 0 → AM.get fr 2 = some (.v (.int .i64 x))) := by
  have hil : i < l.length := (List.getElem?_eq_some_iff.1 hi).1
  have hi2 : (i : Int) < (l.length : Int) := by omega
  have w3 := wrapN1 (n := i) (by omega)
  have ia := ia_lit (P := E.P) (h := h) (b := b) (kd := .i64) und_164 sz_3 hi
  rw [exec_code]
  by_cases hx : x = 0
  · subst hx
    simp -implicitDefEqProofs only [simA, Nat.reduceAdd, Nat.reduceLT, Nat.reduceEqDiff, Nat.reduceLeDiff, Nat.reduceMul, Int.reduceBEq, Int.reduceBNe, Int.reduceLT, Int.reduceLE, Int.reduceAdd, Int.reduceSub, Int.reduceMul, Int.reduceNeg, Nat.reduceSub, Nat.reducePow, Nat.reduceDiv, Nat.reduceMod, ln_164, und_164, sz_3, agg_3, keep_86, E_masks, masks, rows_86, Tryz.f86, hi2, w3, ia]
    exact ⟨_, rfl, fun _ => rfl, fun h => (h rfl).elim⟩
  · have hb : (x != 0) = true := by simp [hx]
    simp -implicitDefEqProofs only [simA, Nat.reduceAdd, Nat.reduceLT, Nat.reduceEqDiff, Nat.reduceLeDiff, Nat.reduceMul, Int.reduceBEq, Int.reduceBNe, Int.reduceLT, Int.reduceLE, Int.reduceAdd, Int.reduceSub, Int.reduceMul, Int.reduceNeg, Nat.reduceSub, Nat.reducePow, Nat.reduceDiv, Nat.reduceMod, ln_164, und_164, sz_3, agg_3, keep_86, E_masks, masks, rows_86, Tryz.f86, hi2, w3, ia, hb, hx]
    exact ⟨_, rfl, fun h => h.elim, fun _ => rfl⟩
theorem c86 (n : Nat) (a b c : Int) (h : Heap) : call E (n + 500) 86 [.lit 1 true [.v (.int .i64 a), .v (.int .i64 b), .v (.int .i64 c)]] h = some (.v (.int .i64 (or3 a b c)), h, ⟨[], [], true⟩) := by
  obtain ⟨fr1, e1, k1, g1⟩ := round86 n [.v (.int .i64 a), .v (.int .i64 b), .v (.int .i64 c)] 0 a true h rfl (by simp)
  obtain ⟨fr2, e2, k2, g2⟩ := round86 n [.v (.int .i64 a), .v (.int .i64 b), .v (.int .i64 c)] 1 b true h rfl (by simp)
  obtain ⟨fr3, e3, k3, g3⟩ := round86 n [.v (.int .i64 a), .v (.int .i64 b), .v (.int .i64 c)] 2 c true h rfl (by simp)
  have he : exec E (call E (n + 499)) (n + 499) 86 18 h.length (loopB Tryz.f86 0) ⟨[(3, .v (.int .i64 0)), (6, .lit 1 true [.v (.int .i64 a), .v (.int .i64 b), .v (.int .i64 c)]), (7, .v (.int .i64 3)), (8, .v (.int .i64 3))], h, [], []⟩ = some (.exit 0, ⟨[(9, .v (.bool false)), (3, .v (.int .i64 0)), (6, .lit 1 true [.v (.int .i64 a), .v (.int .i64 b), .v (.int .i64 c)]), (7, .v (.int .i64 3)), (8, .v (.int .i64 3))], h, [], []⟩) := by
    rw [exec_code]
    simp -implicitDefEqProofs only [simA, Nat.reduceAdd, Nat.reduceLT, Nat.reduceEqDiff, Nat.reduceLeDiff, Nat.reduceMul, Int.reduceBEq, Int.reduceBNe, Int.reduceLT, Int.reduceLE, Int.reduceAdd, Int.reduceSub, Int.reduceMul, Int.reduceNeg, Nat.reduceSub, Nat.reducePow, Nat.reduceDiv, Nat.reduceMod, ln_164, und_164, sz_3, agg_3, keep_86, E_masks, masks, rows_86, Tryz.f86]
  have key : ∃ fr ex, loopN (exec E (call E (n + 499)) (n + 499) 86 18 h.length (loopB Tryz.f86 0)) (masks 86) (n + 499) ⟨[(3, .v (.int .i64 0)), (6, .lit 1 true [.v (.int .i64 a), .v (.int .i64 b), .v (.int .i64 c)]), (7, .v (.int .i64 3)), (8, .v (.int .i64 0))], h, [], []⟩ = some (ex, ⟨fr, h, [], []⟩) ∧
      ((ex = .ret ∧ AM.get fr 2 = some (.v (.int .i64 (or3 a b c)))) ∨ (ex = .exit 0 ∧ AM.get fr 3 = some (.v (.int .i64 0)) ∧ or3 a b c = 0)) := by
    revert e1 e2 e3 he
    generalize exec E (call E (n + 499)) (n + 499) 86 18 h.length (loopB Tryz.f86 0) = B
    generalize AV.lit 1 true [.v (.int .i64 a), .v (.int .i64 b), .v (.int .i64 c)] = S at *
    intro e1 e2 e3 he
    have s0 : keepF (masks 86) [(3, .v (.int .i64 0)), (6, S), (7, .v (.int .i64 3)), (8, .v (.int .i64 0))] = [(3, .v (.int .i64 0)), (6, S), (7, .v (.int .i64 3)), (8, .v (.int .i64 0))] := rfl
    by_cases ha : a = 0
    · rw [if_pos ha] at e1
      have s1 := loopN_stepK (n := n + 498) s0 e1
      by_cases hb : b = 0
      · rw [if_pos hb] at e2
        have s2 := loopN_stepK (n := n + 497) (k1 ha) e2
        by_cases hc : c = 0
        · rw [if_pos hc] at e3
          have s3 := loopN_stepK (n := n + 496) (k2 hb) e3
          have s4 := loopN_outK (n := n + 495) (k3 hc) he
          exact ⟨_, .exit 0, s1.trans (s2.trans (s3.trans s4)), .inr ⟨rfl, rfl, by simp [or3, ha, hb, hc]⟩⟩
        · rw [if_neg hc] at e3
          have s3 := loopN_retK (n := n + 496) (k2 hb) e3
          exact ⟨fr3, .ret, s1.trans (s2.trans s3), .inl ⟨rfl, by rw [g3 hc]; simp [or3, ha, hb, hc]⟩⟩
      · rw [if_neg hb] at e2
        have s2 := loopN_retK (n := n + 497) (k1 ha) e2
        exact ⟨fr2, .ret, s1.trans s2, .inl ⟨rfl, by rw [g2 hb]; simp [or3, ha, hb]⟩⟩
    · rw [if_neg ha] at e1
      exact ⟨fr1, .ret, loopN_retK (n := n + 498) s0 e1, .inl ⟨rfl, by rw [g1 ha]; simp [or3, ha]⟩⟩
  obtain ⟨fr, ex, q1, q2⟩ := key
  rw [call_at (E := E) (f := 86) (fn := Tryz.f86) rfl Tryz.func86 rfl (Nat.le_of_ble_eq_true rfl)]
  simp -implicitDefEqProofs only [simA, Nat.reduceAdd, Nat.reduceLT, Nat.reduceEqDiff, Nat.reduceLeDiff, Nat.reduceMul, Int.reduceBEq, Int.reduceBNe, Int.reduceLT, Int.reduceLE, Int.reduceAdd, Int.reduceSub, Int.reduceMul, Int.reduceNeg, Nat.reduceSub, Nat.reducePow, Nat.reduceDiv, Nat.reduceMod, ln_164, und_164, sz_3, agg_3, keep_86, E_masks, masks, rows_86, Tryz.f86] at q1
  rcases q2 with ⟨rfl, q3⟩ | ⟨rfl, q3, q4⟩
  · simp -implicitDefEqProofs only [simA, Nat.reduceAdd, Nat.reduceLT, Nat.reduceEqDiff, Nat.reduceLeDiff, Nat.reduceMul, Int.reduceBEq, Int.reduceBNe, Int.reduceLT, Int.reduceLE, Int.reduceAdd, Int.reduceSub, Int.reduceMul, Int.reduceNeg, Nat.reduceSub, Nat.reducePow, Nat.reduceDiv, Nat.reduceMod, ln_164, und_164, sz_3, agg_3, keep_86, E_masks, masks, rows_86, Tryz.f86, q1, q3]
  · simp -implicitDefEqProofs only [simA, Nat.reduceAdd, Nat.reduceLT, Nat.reduceEqDiff, Nat.reduceLeDiff, Nat.reduceMul, Int.reduceBEq, Int.reduceBNe, Int.reduceLT, Int.reduceLE, Int.reduceAdd, Int.reduceSub, Int.reduceMul, Int.reduceNeg, Nat.reduceSub, Nat.reducePow, Nat.reduceDiv, Nat.reduceMod, ln_164, und_164, sz_3, agg_3, keep_86, E_masks, masks, rows_86, Tryz.f86, q1, q3]
    simp [q4]
theorem kd69 (n : Nat) (p : Pre) (hp : p.ad.length = 16) (h : Heap) : call E (n + 500) 69 [p.av] h = some (.v (.int .i64 (kindI p.six)), h, ⟨[], [], true⟩) := by
  obtain ⟨six, ad, len⟩ := p
  have hl : leafsL (ofBytes ad) = 16 := by rw [leafs_ofBytes]; exact hp
  rw [call_at (E := E) (f := 69) (fn := Tryz.f69) rfl Tryz.func69 rfl (Nat.le_of_ble_eq_true rfl)]
  cases six <;> simp -implicitDefEqProofs only [simA, Nat.reduceAdd, Nat.reduceLT, Nat.reduceEqDiff, Nat.reduceLeDiff, Nat.reduceMul, Int.reduceBEq, Int.reduceBNe, Int.reduceLT, Int.reduceLE, Int.reduceAdd, Int.reduceSub, Int.reduceMul, Int.reduceNeg, Nat.reduceSub, Nat.reducePow, Nat.reduceDiv, Nat.reduceMod, fo_55_0, sz_4, agg_4, keep_69, E_masks, masks, rows_69, Tryz.f69, kindI, Pre.av, hl] <;> rfl
theorem c49 (n : Nat) (p q : Pre) (hp : p.ad.length = 16) (hq : q.ad.length = 16) (h : Heap) : call E (n + 502) 49 [p.av, q.av] h = some (.v (.int .i64 (cmpP p q)), h, ⟨[], [], true⟩) := by
  have k1 := kd69 (n + 1) p hp (h ++ [.row 18 0 [p.av] ⟨true, 55⟩, .row 18 0 [q.av] ⟨true, 55⟩])
  have k2 := kd69 (n + 1) q hq (h ++ [.row 18 0 [p.av] ⟨true, 55⟩, .row 18 0 [q.av] ⟨true, 55⟩])
  obtain ⟨s1, a1, n1⟩ := p
  obtain ⟨s2, a2, n2⟩ := q
  simp only at hp hq
  have l1 : leafsL (ofBytes a1) = 16 := by rw [leafs_ofBytes, hp]
  have l2 : leafsL (ofBytes a2) = 16 := by rw [leafs_ofBytes, hq]
  have hsl := fun h id => sl_all (P := E.P) (h := h) (id := id) (g := 0) (i := 0) (p := [1]) (o := 1) und_53 sz_5
  have t1 := strOf_isl (h := h ++ [.row 18 0 [.agg [.v (.bool s1), .agg (ofBytes a1), .v (.int .i64 n1)]] ⟨true, 55⟩, .row 18 0 [.agg [.v (.bool s2), .agg (ofBytes a2), .v (.int .i64 n2)]] ⟨true, 55⟩]) (id := h.length) (g := 0) (i := 0) (o := 1) (k := 18) (len := 16) (n := 16) (p := [1]) (z := .agg [.v (.bool s1), .agg (ofBytes a1), .v (.int .i64 n1)]) (l := a1) (by rw [end0]; rfl) rfl rfl hp (by omega)
  have t2 := strOf_isl (h := h ++ [.row 18 0 [.agg [.v (.bool s1), .agg (ofBytes a1), .v (.int .i64 n1)]] ⟨true, 55⟩, .row 18 0 [.agg [.v (.bool s2), .agg (ofBytes a2), .v (.int .i64 n2)]] ⟨true, 55⟩]) (id := h.length + 1) (g := 0) (i := 0) (o := 1) (k := 18) (len := 16) (n := 16) (p := [1]) (z := .agg [.v (.bool s2), .agg (ofBytes a2), .v (.int .i64 n2)]) (l := a2) (by rw [end1]; rfl) rfl rfl hq (by omega)
  have t88 := c88 n _ _ _ _ _ t1 t2
  rw [List.take_of_length_le (by omega), List.take_of_length_le (by omega)] at t88
  have hcm : cmpP ⟨s1, a1, n1⟩ ⟨s2, a2, n2⟩ = or3 (cmpI (kindI s1) (kindI s2)) (Extern.BytealgCompare.cmp (strB a1) (strB a2)) (cmpI n1 n2) := rfl
  simp only [Pre.av] at k1 k2 ⊢
  rw [hcm, call_at (E := E) (f := 49) (fn := Tryz.f49) rfl Tryz.func49 rfl (Nat.le_of_ble_eq_true rfl)]
  simp -implicitDefEqProofs only [simA, Nat.reduceAdd, Nat.reduceLT, Nat.reduceEqDiff, Nat.reduceLeDiff, Nat.reduceMul, Int.reduceBEq, Int.reduceBNe, Int.reduceLT, Int.reduceLE, Int.reduceAdd, Int.reduceSub, Int.reduceMul, Int.reduceNeg, Nat.reduceSub, Nat.reducePow, Nat.reduceDiv, Nat.reduceMod, prs_49_1, sz_55, agg_55, fo_55_1, und_53, sz_5, agg_5, fo_55_2, sz_3, agg_3, bs_164_3_49, keep_49, E_masks, masks, rows_49, Tryz.f49, l1, l2, k1, k2, hsl, t88, c87, c86, pairsOK, clsOf, compat]
theorem c48 (n : Nat) (r s : Route) (hr : r.to.ad.length = 16) (hs : s.to.ad.length = 16) (h : Heap) : call E (n + 503) 48 [r.av, s.av] h = some (.v (.int .i64 (cmpP r.to s.to)), h, ⟨[], [], true⟩) := by
  have hl : leafs r.to.av = 18 := by simp [Pre.av, AM.leafs, leafsL, leafs_bytes, hr]
  have hl2 : leafs s.to.av = 18 := by simp [Pre.av, AM.leafs, leafsL, leafs_bytes, hs]
  have ha : isAggA r.to.av = true := rfl
  have ha2 : isAggA s.to.av = true := rfl
  have k := fun h => c49 n r.to s.to hr hs h
  rw [call_at (E := E) (f := 48) (fn := Tryz.f48) rfl Tryz.func48 rfl (Nat.le_of_ble_eq_true rfl)]
  simp -implicitDefEqProofs only [simA, Nat.reduceAdd, Nat.reduceLT, Nat.reduceEqDiff, Nat.reduceLeDiff, Nat.reduceMul, Int.reduceBEq, Int.reduceBNe, Int.reduceLT, Int.reduceLE, Int.reduceAdd, Int.reduceSub, Int.reduceMul, Int.reduceNeg, Nat.reduceSub, Nat.reducePow, Nat.reduceDiv, Nat.reduceMod, fo_58_0, sz_55, agg_55, keep_48, E_masks, masks, rows_48, Tryz.f48, Route.av, hl, hl2, ha, ha2, k, pairsOK, clsOf, compat]
  try rfl

end Go.Proofs.YtobdjegooonklaaGreat
