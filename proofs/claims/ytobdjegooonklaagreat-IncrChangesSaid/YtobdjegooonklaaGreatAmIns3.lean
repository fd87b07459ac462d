/- slices.Insert at the end. Conditions: none. -/
import Derived.Test.YtobdjegooonklaaGreatAmIns
set_option linter.unusedSimpArgs false
set_option linter.unusedVariables false
set_option maxRecDepth 100000
namespace Go.Proofs.YtobdjegooonklaaGreat.Early
open Go Go.AM

theorem src_v {h : Heap} {vid vg : Nat} {x : AV} {exv : Tag} (hv : h[vid]? = some (.row 20 vg [x] exv)) : srS h 20 (.sl vid vg 0 1) = some [x] := by
  simp [srS_sl, elsOf, hv]
  rfl

theorem end_nil (n : Nat) (h : Heap) (x : AV) (vid vg : Nat) (exv : Tag) (hv : h[vid]? = some (.row 20 vg [x] exv)) :
    call E (n + 1) 113 [nilS, vInt 0, .sl vid vg 0 1] h = some (.sl h.length 0 0 1, h ++ [.row 20 0 [x] ⟨false, 58⟩], ⟨[], [], false⟩) := by
  have h1 := src_v hv
  have hs : sliceE E.P h 36 (.v (.slice none 0 0)) (some (.v (.int .i64 0))) none none = some (.v (.slice none 0 0)) := by simp [sliceE, und_36, sz_58, bound]
  rw [call_at (E := E) (f := 113) (fn := Tryz.f113) rfl Tryz.func113 rfl (Nat.le_of_ble_eq_true rfl)]
  simp -implicitDefEqProofs only [simA, Nat.reduceAdd, Nat.reduceLT, Nat.reduceEqDiff, Nat.reduceLeDiff, Nat.reduceMul, Int.reduceBEq, Int.reduceBNe, Int.reduceLT, Int.reduceLE, Int.reduceAdd, Int.reduceSub, Int.reduceMul, Int.reduceNeg, Nat.reduceSub, Nat.reducePow, Nat.reduceDiv, Nat.reduceMod, und_36, sz_58, ln_36, ap_36_36, src_36, ap_36_3, prs_113_11, prs_113_15, keep_113, E_masks, masks, rows_113, Tryz.f113, h1, hs]
theorem end_lit (n : Nat) (h : Heap) (x : AV) (vid vg : Nat) (exv : Tag) (hv : h[vid]? = some (.row 20 vg [x] exv)) :
    call E (n + 1) 113 [.lit 20 true [], vInt 0, .sl vid vg 0 1] h = some (.sl h.length 0 0 1, h ++ [.row 20 0 [x] ⟨false, 58⟩], ⟨[], [], false⟩) := by
  have h1 := src_v hv
  have hs : ∃ b, sliceE E.P h 36 (.lit 20 true []) (some (.v (.int .i64 0))) none none = some (.lit 20 b []) := ⟨_, by simp [sliceE, und_36, sz_58, bound]; rfl⟩
  obtain ⟨b, hs⟩ := hs
  rw [call_at (E := E) (f := 113) (fn := Tryz.f113) rfl Tryz.func113 rfl (Nat.le_of_ble_eq_true rfl)]
  simp -implicitDefEqProofs only [simA, Nat.reduceAdd, Nat.reduceLT, Nat.reduceEqDiff, Nat.reduceLeDiff, Nat.reduceMul, Int.reduceBEq, Int.reduceBNe, Int.reduceLT, Int.reduceLE, Int.reduceAdd, Int.reduceSub, Int.reduceMul, Int.reduceNeg, Nat.reduceSub, Nat.reducePow, Nat.reduceDiv, Nat.reduceMod, und_36, sz_58, ln_36, ap_36_36, src_36, ap_36_3, prs_113_11, prs_113_15, keep_113, E_masks, masks, rows_113, Tryz.f113, h1, hs]
theorem end_sl (n : Nat) (h : Heap) (x : AV) (id gen vid vg len : Nat) (els : List AV) (fl : Bool) (exv : Tag) (hr : h[id]? = some (.row 20 gen els ⟨fl, 58⟩)) (hv : h[vid]? = some (.row 20 vg [x] exv)) (hle : len ≤ els.length) (hlen : len < mostSeq) (hx : idfree x = true) :
    ∃ g2 els2 fl2, call E (n + 1) 113 [.sl id gen 0 len, vInt len, .sl vid vg 0 1] h = some (.sl id g2 0 (len + 1), h.set id (.row 20 g2 els2 ⟨fl2, 58⟩), ⟨[id], [], false⟩) ∧ els2.take (len + 1) = els.take len ++ [x] := by
  have hlen' : len < 1000000 := hlen
  have h1 := src_v hv
  have hid := lt_of_getElem? hr
  have hs := sl_from (n := len) (q := len) hr (Nat.le_refl _)
  have hb : ((len : Int) == (len : Int)) = true := by simp
  have hby : (len + 1) * 48 ≤ 140737488355328 := by omega
  have hins : ins id [] = [id] := rfl
  by_cases hroom : len + 1 ≤ els.length
  · have happ : appendTo h 58 20 (.sl id gen 0 len) [x] = some (.sl id gen 0 (len + 1), h.set id (.row 20 gen (setFrom els len [x]) ⟨fl, 58⟩), some (id, false), .w) := by
      simp [appendTo, hr, bleE, hle, hroom, idfreeL, hx]
    have hset : (setFrom els len [x]).take (len + 1) = els.take len ++ [x] := by
      simp only [setFrom]
      rw [List.take_set]
      rw [List.take_succ_eq_append_getElem (by omega), List.set_append_right _ _ (by simp; omega)]
      simp [Nat.min_eq_left hle]
    have key : call E (n + 1) 113 [.sl id gen 0 len, vInt len, .sl vid vg 0 1] h = some (.sl id gen 0 (len + 1), h.set id (.row 20 gen (setFrom els len [x]) ⟨fl, 58⟩), ⟨[id], [], false⟩) := by
      rw [call_at (E := E) (f := 113) (fn := Tryz.f113) rfl Tryz.func113 rfl (Nat.le_of_ble_eq_true rfl)]
      simp -implicitDefEqProofs only [simA, Nat.reduceAdd, Nat.reduceLT, Nat.reduceEqDiff, Nat.reduceLeDiff, Nat.reduceMul, Int.reduceBEq, Int.reduceBNe, Int.reduceLT, Int.reduceLE, Int.reduceAdd, Int.reduceSub, Int.reduceMul, Int.reduceNeg, Nat.reduceSub, Nat.reducePow, Nat.reduceDiv, Nat.reduceMod, und_36, sz_58, ln_36, ap_36_36, src_36, ap_36_3, prs_113_11, prs_113_15, keep_113, E_masks, masks, rows_113, Tryz.f113, h1, hs, hb, happ, hby, hid, hins]
    exact ⟨gen, _, fl, key, hset⟩
  · have hel : els.length = len := by omega
    have hno : ¬ (len + 1 ≤ els.length) := hroom
    have happ : appendTo h 58 20 (.sl id gen 0 len) [x] = some (.sl id (gen + 1) 0 (len + 1), h.set id (.row 20 (gen + 1) (els.take len ++ [x]) ⟨false, 58⟩), some (id, false), .w) := by
      simp [appendTo, hr, bleE, hle, hno, idfreeL, hx]
    have hset : (els.take len ++ [x]).take (len + 1) = els.take len ++ [x] := List.take_of_length_le (by simp; omega)
    have key : call E (n + 1) 113 [.sl id gen 0 len, vInt len, .sl vid vg 0 1] h = some (.sl id (gen + 1) 0 (len + 1), h.set id (.row 20 (gen + 1) (els.take len ++ [x]) ⟨false, 58⟩), ⟨[id], [], false⟩) := by
      rw [call_at (E := E) (f := 113) (fn := Tryz.f113) rfl Tryz.func113 rfl (Nat.le_of_ble_eq_true rfl)]
      simp -implicitDefEqProofs only [simA, Nat.reduceAdd, Nat.reduceLT, Nat.reduceEqDiff, Nat.reduceLeDiff, Nat.reduceMul, Int.reduceBEq, Int.reduceBNe, Int.reduceLT, Int.reduceLE, Int.reduceAdd, Int.reduceSub, Int.reduceMul, Int.reduceNeg, Nat.reduceSub, Nat.reducePow, Nat.reduceDiv, Nat.reduceMod, und_36, sz_58, ln_36, ap_36_36, src_36, ap_36_3, prs_113_11, prs_113_15, keep_113, E_masks, masks, rows_113, Tryz.f113, h1, hs, hb, happ, hby, hid, hins]
    exact ⟨gen + 1, _, false, key, hset⟩

end Go.Proofs.YtobdjegooonklaaGreat.Early
