/- What the reference asks of a route, of a change. Conditions: none. -/
import Derived.Test.YtobdjegooonklaaGreatAmIncr
import Derived.Test.YtobdjegooonklaaGreatAmRight
set_option linter.unusedSimpArgs false
set_option linter.unusedVariables false
namespace Go.Proofs.YtobdjegooonklaaGreat
open Go Go.AM

theorem c72 (n : Nat) (h : Heap) (r : Route) (hr : r.ok) : call E (n + 502) 72 [r.av] h = some (.v (.bool (rightR r)), h, ⟨[], [], true⟩) := by
  have hc := fun n h => c71' n h r.to hr.1
  have hpl : AM.leafs r.to.av = 18 := Pre.leafs hr.1
  have hpa : isAggA r.to.av = true := rfl
  obtain ⟨to, metric, seq⟩ := r
  simp only at hc hpl hpa
  rw [call_at (E := E) (f := 72) (fn := Tryz.f72) rfl Tryz.func72 rfl (Nat.le_of_ble_eq_true rfl)]
  cases hb : right to with
  | false =>
    rw [hb] at hc
    simp -implicitDefEqProofs only [simA, Nat.reduceAdd, Nat.reduceLT, Nat.reduceEqDiff, Nat.reduceLeDiff, Nat.reduceMul, Int.reduceBEq, Int.reduceBNe, Int.reduceLT, Int.reduceLE, Int.reduceAdd, Int.reduceSub, Int.reduceMul, Int.reduceNeg, Nat.reduceSub, Nat.reducePow, Nat.reduceDiv, Nat.reduceMod, fo_58_0, sz_55, agg_55, fo_58_1, sz_3, agg_3, keep_72, E_masks, masks, rows_72, Tryz.f72, Route.av, hpl, hpa, hc]
    simp [rightR, hb]
  | true =>
    rw [hb] at hc
    by_cases h1 : 0 ≤ metric
    · simp -implicitDefEqProofs only [simA, Nat.reduceAdd, Nat.reduceLT, Nat.reduceEqDiff, Nat.reduceLeDiff, Nat.reduceMul, Int.reduceBEq, Int.reduceBNe, Int.reduceLT, Int.reduceLE, Int.reduceAdd, Int.reduceSub, Int.reduceMul, Int.reduceNeg, Nat.reduceSub, Nat.reducePow, Nat.reduceDiv, Nat.reduceMod, fo_58_0, sz_55, agg_55, fo_58_1, sz_3, agg_3, keep_72, E_masks, masks, rows_72, Tryz.f72, Route.av, hpl, hpa, hc, h1]
      simp [rightR, hb, h1]
    · simp -implicitDefEqProofs only [simA, Nat.reduceAdd, Nat.reduceLT, Nat.reduceEqDiff, Nat.reduceLeDiff, Nat.reduceMul, Int.reduceBEq, Int.reduceBNe, Int.reduceLT, Int.reduceLE, Int.reduceAdd, Int.reduceSub, Int.reduceMul, Int.reduceNeg, Nat.reduceSub, Nat.reducePow, Nat.reduceDiv, Nat.reduceMod, fo_58_0, sz_55, agg_55, fo_58_1, sz_3, agg_3, keep_72, E_masks, masks, rows_72, Tryz.f72, Route.av, hpl, hpa, hc, h1]
      simp [rightR, hb, h1]

theorem c33 (n : Nat) (h : Heap) (i : Inc) (hi : i.ok) : call E (n + 503) 33 [i.av] h = some (.v (.bool (may i)), h, ⟨[], [], true⟩) := by
  have hc := fun n h => c71' n h i.r.to hi.2.1
  have hc2 := fun n h => c72 n h i.r hi.2
  have hil : AM.leafs i.av = 21 := Inc.leafs hi
  have hit : isTupA i.av = false := rfl
  have hpl : AM.leafs i.r.to.av = 18 := Pre.leafs hi.2.1
  have hpa : isAggA i.r.to.av = true := rfl
  have hrl : AM.leafs i.r.av = 20 := Route.leafs hi.2
  have hra : isAggA i.r.av = true := rfl
  have n0 : nav i.av [0] 0 = some (.v (.int .i64 i.kind)) := by simp [Inc.av, nav, navL]
  have nr : nav i.av [1] 1 = some i.r.av := by simp [Inc.av, nav, navL, Zfv, bleE]
  have n1 : nav i.av [1, 0] 1 = some i.r.to.av := by simp [Inc.av, Route.av, nav, navL, Zfv, bleE]
  have n2 : nav i.av [1, 1] 19 = some (.v (.int .i64 i.r.metric)) := by simp [Inc.av, Route.av, nav, navL, Zfv, bleE, hpl]
  have n3 : nav i.av [1, 2] 20 = some (.v (.int .u32 i.r.seq)) := by simp [Inc.av, Route.av, nav, navL, Zfv, bleE, hpl]
  rw [call_at (E := E) (f := 33) (fn := Tryz.f33) rfl Tryz.func33 rfl (Nat.le_of_ble_eq_true rfl)]
  by_cases k3 : i.kind = 3
  · have e3 : (i.kind == 3) = true := by simp [k3]
    have hmay : may i = (right i.r.to && (decide (i.r.metric = 0) && decide (i.r.seq = 0))) := by
      unfold may
      rw [if_neg (by omega), if_pos k3]
      congr 1
      obtain ⟨kind, to, metric, seq⟩ := i
      by_cases a1 : metric = 0 <;> by_cases a2 : seq = 0 <;> simp [bare, a1, a2]
    cases hb : right i.r.to with
    | false =>
      rw [hb] at hc
      simp -implicitDefEqProofs only [simA, Nat.reduceAdd, Nat.reduceLT, Nat.reduceEqDiff, Nat.reduceLeDiff, Nat.reduceMul, Int.reduceBEq, Int.reduceBNe, Int.reduceLT, Int.reduceLE, Int.reduceAdd, Int.reduceSub, Int.reduceMul, Int.reduceNeg, Nat.reduceSub, Nat.reducePow, Nat.reduceDiv, Nat.reduceMod, fo_60_0, sz_3, agg_3, fo_60_1, fo_58_0, sz_55, agg_55, fo_58_1, fo_58_2, sz_56, agg_56, sz_58, agg_58, keep_33, E_masks, masks, rows_33, Tryz.f33, hil, hit, hpl, hpa, n0, n1, n2, n3, e3, hc]
      simp [hmay, hb]
    | true =>
      rw [hb] at hc
      by_cases a1 : i.r.metric = 0
      · have e1 : (i.r.metric == 0) = true := by simp [a1]
        simp -implicitDefEqProofs only [simA, Nat.reduceAdd, Nat.reduceLT, Nat.reduceEqDiff, Nat.reduceLeDiff, Nat.reduceMul, Int.reduceBEq, Int.reduceBNe, Int.reduceLT, Int.reduceLE, Int.reduceAdd, Int.reduceSub, Int.reduceMul, Int.reduceNeg, Nat.reduceSub, Nat.reducePow, Nat.reduceDiv, Nat.reduceMod, fo_60_0, sz_3, agg_3, fo_60_1, fo_58_0, sz_55, agg_55, fo_58_1, fo_58_2, sz_56, agg_56, sz_58, agg_58, keep_33, E_masks, masks, rows_33, Tryz.f33, hil, hit, hpl, hpa, n0, n1, n2, n3, e3, e1, hc]
        simp [hmay, hb, a1]
        rfl
      · have e1 : (i.r.metric == 0) = false := by simp [a1]
        simp -implicitDefEqProofs only [simA, Nat.reduceAdd, Nat.reduceLT, Nat.reduceEqDiff, Nat.reduceLeDiff, Nat.reduceMul, Int.reduceBEq, Int.reduceBNe, Int.reduceLT, Int.reduceLE, Int.reduceAdd, Int.reduceSub, Int.reduceMul, Int.reduceNeg, Nat.reduceSub, Nat.reducePow, Nat.reduceDiv, Nat.reduceMod, fo_60_0, sz_3, agg_3, fo_60_1, fo_58_0, sz_55, agg_55, fo_58_1, fo_58_2, sz_56, agg_56, sz_58, agg_58, keep_33, E_masks, masks, rows_33, Tryz.f33, hil, hit, hpl, hpa, n0, n1, n2, n3, e3, e1, hc]
        simp [hmay, hb, a1]
  · have e3 : (i.kind == 3) = false := by simp [k3]
    by_cases k1 : i.kind = 1
    · have e1 : (i.kind == 1) = true := by simp [k1]
      simp -implicitDefEqProofs only [simA, Nat.reduceAdd, Nat.reduceLT, Nat.reduceEqDiff, Nat.reduceLeDiff, Nat.reduceMul, Int.reduceBEq, Int.reduceBNe, Int.reduceLT, Int.reduceLE, Int.reduceAdd, Int.reduceSub, Int.reduceMul, Int.reduceNeg, Nat.reduceSub, Nat.reducePow, Nat.reduceDiv, Nat.reduceMod, fo_60_0, sz_3, agg_3, fo_60_1, fo_58_0, sz_55, agg_55, fo_58_1, fo_58_2, sz_56, agg_56, sz_58, agg_58, keep_33, E_masks, masks, rows_33, Tryz.f33, hil, hit, hrl, hra, n0, nr, e3, e1, hc2]
      simp [may, k1]
    · have e1 : (i.kind == 1) = false := by simp [k1]
      by_cases k2 : i.kind = 2
      · have e2 : (i.kind == 2) = true := by simp [k2]
        simp -implicitDefEqProofs only [simA, Nat.reduceAdd, Nat.reduceLT, Nat.reduceEqDiff, Nat.reduceLeDiff, Nat.reduceMul, Int.reduceBEq, Int.reduceBNe, Int.reduceLT, Int.reduceLE, Int.reduceAdd, Int.reduceSub, Int.reduceMul, Int.reduceNeg, Nat.reduceSub, Nat.reducePow, Nat.reduceDiv, Nat.reduceMod, fo_60_0, sz_3, agg_3, fo_60_1, fo_58_0, sz_55, agg_55, fo_58_1, fo_58_2, sz_56, agg_56, sz_58, agg_58, keep_33, E_masks, masks, rows_33, Tryz.f33, hil, hit, hrl, hra, n0, nr, e3, e1, e2, hc2]
        simp [may, k2]
      · have e2 : (i.kind == 2) = false := by simp [k2]
        simp -implicitDefEqProofs only [simA, Nat.reduceAdd, Nat.reduceLT, Nat.reduceEqDiff, Nat.reduceLeDiff, Nat.reduceMul, Int.reduceBEq, Int.reduceBNe, Int.reduceLT, Int.reduceLE, Int.reduceAdd, Int.reduceSub, Int.reduceMul, Int.reduceNeg, Nat.reduceSub, Nat.reducePow, Nat.reduceDiv, Nat.reduceMod, fo_60_0, sz_3, agg_3, fo_60_1, fo_58_0, sz_55, agg_55, fo_58_1, fo_58_2, sz_56, agg_56, sz_58, agg_58, keep_33, E_masks, masks, rows_33, Tryz.f33, hil, hit, hrl, hra, n0, nr, e3, e1, e2, hc2]
        simp [may, k1, k2, k3]

end Go.Proofs.YtobdjegooonklaaGreat
