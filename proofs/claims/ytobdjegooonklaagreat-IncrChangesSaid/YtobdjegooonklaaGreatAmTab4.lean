/- A table: a change done. Conditions: none. -/
import Derived.Test.YtobdjegooonklaaGreatAmTab1
set_option linter.unusedSimpArgs false
set_option linter.unusedVariables false
set_option maxRecDepth 100000
set_option maxHeartbeats 1000000
namespace Go.Proofs.YtobdjegooonklaaGreat
open Go Go.AM

/-- What a change makes of a table's routes, and its error. -/
def doT (l : List Route) (i : Inc) : List Route × Int :=
  if i.kind = 3 then
    if i.r = ⟨i.r.to, 0, 0⟩ ∧ right i.r.to = true then
      if has l i.r.to = true then (delAt l (pos l i.r.to), 0) else (l, 8)
    else (l, 1)
  else if (i.kind = 1 ∨ i.kind = 2) ∧ rightR i.r = true then
    if has l i.r.to = true then
      if i.kind = 1 then (l, 9) else (l.set (pos l i.r.to) i.r, 0)
    else if i.kind = 2 then (l, 8)
    else if 300 ≤ l.length then (l, 7) else (insAt l (pos l i.r.to) i.r, 0)
  else (l, 1)

theorem LeftT.less {n0 tid : Nat} {h h' k : Heap} {l : List Route} {ds ls : List Nat} (L : LeftT n0 tid (h ++ k) h' l ds ls) (hn : n0 ≤ h.length) {ds' ls' : List Nat} (hd : (∀ d ∈ ds, n0 ≤ d) → ∀ d ∈ ds', n0 ≤ d) (hl : (∀ d ∈ ls, n0 ≤ d) → ∀ d ∈ ls', n0 ≤ d) : LeftT n0 tid h h' l ds' ls' := by
  obtain ⟨h1, h2, h3, h4, h5⟩ := L
  refine ⟨h1, by simp at h2; omega, fun j hj => ?_, hd h4, hl h5⟩
  rw [h3 j hj, List.getElem?_append_left (by omega)]

theorem inc_nav0 (i : Inc) : nav i.av [0] 0 = some (.v (.int .i64 i.kind)) := rfl
theorem inc_nav1 (i : Inc) : nav i.av [1] 1 = some i.r.av := rfl
theorem inc_nav2 (i : Inc) : nav i.av [1, 0] 1 = some i.r.to.av := rfl

theorem do_run (n : Nat) (h : Heap) (n0 tid : Nat) (s : AV) (l : List Route) (i : Inc) (T : Tab n0 h tid s l) (hi : i.ok) :
    ∃ h' ds ls q, call E (n + 507) 52 [.ptr tid 0 0 [] 0, i.av] h = some (.v (.int .i64 (doT l i).2), h', ⟨ds, ls, q⟩) ∧ ((doT l i).2 ≠ 0 → h' = h ∧ ds = [] ∧ ls = [] ∧ q = true) ∧ ((doT l i).2 = 0 → q = false ∧ LeftT n0 tid h h' (doT l i).1 ds ls) := by
  have hli : AM.leafs i.av = 21 := Inc.leafs hi
  have hai : isAggA i.av = true := rfl
  have hti : isTupA i.av = false := rfl
  have hlr : AM.leafs i.r.av = 20 := Route.leafs hi.2
  have har : isAggA i.r.av = true := rfl
  have hlp : AM.leafs i.r.to.av = 18 := Pre.leafs hi.2.1
  have hap : isAggA i.r.to.av = true := rfl
  have htp : isTupA i.r.to.av = false := rfl
  have hT := lt_of_getElem? T.row
  have hn0 : n0 ≤ h.length := by have := T.lo; omega
  have hT1 : (h ++ [.row 21 0 [i.av] ⟨true, 60⟩])[tid]? = some (.row 1 0 [.agg [s]] ⟨true, 99⟩) := by rw [List.getElem?_append_left hT]; exact T.row
  have T1 : Tab n0 (h ++ [.row 21 0 [i.av] ⟨true, 60⟩]) tid s l := ⟨hT1, T.lo, T.view.push _, T.ok, T.most, T.sorted⟩
  have k1 := c89 (n + 1) (h ++ [.row 21 0 [i.av] ⟨true, 60⟩]) tid s l i.r.to hT1 T1.view.rv T.ok hi.2.1 T.most T.sorted
  have k2 := fun m => c45 m (h ++ [.row 21 0 [i.av] ⟨true, 60⟩]) i.r hi.2
  have k3 := fun m => c68 m (h ++ [.row 21 0 [i.av] ⟨true, 60⟩]) i.r.to hi.2.1
  have hq : (⟨i.r.to, 0, 0⟩ : Route).ok := by
    have z : i64 0 := ⟨by decide, by decide⟩
    exact ⟨hi.2.1, z, Int.le_refl 0, (by decide : (0 : Int) ≤ 4294967295)⟩
  have hzero : ∀ ox oy, binE E.P .neq 58 ox oy i.r.av (.agg [i.r.to.av, .v (.int .i64 0), .v (.int .u32 0)]) = some (.v (.bool !(decide (i.r = ⟨i.r.to, 0, 0⟩)))) := fun ox oy => ne58 hi.2 hq
  have hzl : leafsL (List.replicate 16 (AV.v (.int .u8 0))) = 16 := by kernel_rfl
  by_cases h3 : i.kind = 3
  · have b3 : (i.kind == 3) = true := by simp [h3]
    by_cases hz : i.r = ⟨i.r.to, 0, 0⟩
    · have bz : decide (i.r = ⟨i.r.to, 0, 0⟩) = true := decide_eq_true hz
      by_cases hr : right i.r.to = true
      · rw [hr] at k3
        by_cases hh : has l i.r.to = true
        · have hd : doT l i = (delAt l (pos l i.r.to), 0) := by unfold doT; rw [if_pos h3, if_pos ⟨hz, hr⟩, if_pos hh]
          rw [hh] at k1
          obtain ⟨h', ds, e1, L⟩ := drop_there n (h ++ [.row 21 0 [i.av] ⟨true, 60⟩]) n0 tid s l i.r.to T1 hi.2.1 hh
          have hins : ins tid [] = [tid] := rfl
          refine ⟨h', mergeLt h.length ds [], [tid], false, ?_, fun hne => by rw [hd] at hne; exact (hne rfl).elim, fun _ => ⟨rfl, by rw [hd]; exact L.less hn0 (fun hd => ge_merge hd (fun d hd => nomatch hd)) (fun hl => hl)⟩⟩
          rw [hd, call_at (E := E) (f := 52) (fn := Tryz.f52) rfl Tryz.func52 rfl (Nat.le_of_ble_eq_true rfl)]
          simp -implicitDefEqProofs only [simA, Nat.reduceAdd, Nat.reduceLT, Nat.reduceEqDiff, Nat.reduceLeDiff, Nat.reduceMul, Int.reduceBEq, Int.reduceBNe, Int.reduceLT, Int.reduceLE, Int.reduceAdd, Int.reduceSub, Int.reduceMul, Int.reduceNeg, Nat.reduceSub, Nat.reducePow, Nat.reduceDiv, Nat.reduceMod, fo_60_1, fo_58_0, sz_55, agg_55, pe_37, pn_37, ps_37, pz_37, py_37, fo_60_0, sz_3, agg_3, sz_58, agg_58, bd_58, keep_52, E_masks, masks, rows_52, Tryz.f52, hli, hai, hti, hlr, har, hlp, hap, htp, inc_nav0, inc_nav1, inc_nav2, k1, k2, k3, hzero, hzl, b3, bz, e1, hT, hins, pairsOK, clsOf, compat]
        · have hd : doT l i = (l, 8) := by unfold doT; rw [if_pos h3, if_pos ⟨hz, hr⟩, if_neg hh]
          have hh' : has l i.r.to = false := by simpa using hh
          rw [hh'] at k1
          have e1 := drop_none n (h ++ [.row 21 0 [i.av] ⟨true, 60⟩]) n0 tid s l i.r.to T1 hi.2.1 hh'
          refine ⟨h, [], [], true, ?_, fun _ => ⟨rfl, rfl, rfl, rfl⟩, fun h0 => by rw [hd] at h0; cases h0⟩
          rw [hd, call_at (E := E) (f := 52) (fn := Tryz.f52) rfl Tryz.func52 rfl (Nat.le_of_ble_eq_true rfl)]
          simp -implicitDefEqProofs only [simA, Nat.reduceAdd, Nat.reduceLT, Nat.reduceEqDiff, Nat.reduceLeDiff, Nat.reduceMul, Int.reduceBEq, Int.reduceBNe, Int.reduceLT, Int.reduceLE, Int.reduceAdd, Int.reduceSub, Int.reduceMul, Int.reduceNeg, Nat.reduceSub, Nat.reducePow, Nat.reduceDiv, Nat.reduceMod, fo_60_1, fo_58_0, sz_55, agg_55, pe_37, pn_37, ps_37, pz_37, py_37, fo_60_0, sz_3, agg_3, sz_58, agg_58, bd_58, keep_52, E_masks, masks, rows_52, Tryz.f52, hli, hai, hti, hlr, har, hlp, hap, htp, inc_nav0, inc_nav1, inc_nav2, k1, k2, k3, hzero, hzl, b3, bz, e1, pairsOK, clsOf, compat]
      · have hd : doT l i = (l, 1) := by unfold doT; rw [if_pos h3, if_neg (fun hh => hr hh.2)]
        have hr' : right i.r.to = false := by simpa using hr
        rw [hr'] at k3
        refine ⟨h, [], [], true, ?_, fun _ => ⟨rfl, rfl, rfl, rfl⟩, fun h0 => by rw [hd] at h0; cases h0⟩
        rw [hd, call_at (E := E) (f := 52) (fn := Tryz.f52) rfl Tryz.func52 rfl (Nat.le_of_ble_eq_true rfl)]
        simp -implicitDefEqProofs only [simA, Nat.reduceAdd, Nat.reduceLT, Nat.reduceEqDiff, Nat.reduceLeDiff, Nat.reduceMul, Int.reduceBEq, Int.reduceBNe, Int.reduceLT, Int.reduceLE, Int.reduceAdd, Int.reduceSub, Int.reduceMul, Int.reduceNeg, Nat.reduceSub, Nat.reducePow, Nat.reduceDiv, Nat.reduceMod, fo_60_1, fo_58_0, sz_55, agg_55, pe_37, pn_37, ps_37, pz_37, py_37, fo_60_0, sz_3, agg_3, sz_58, agg_58, bd_58, keep_52, E_masks, masks, rows_52, Tryz.f52, hli, hai, hti, hlr, har, hlp, hap, htp, inc_nav0, inc_nav1, inc_nav2, k1, k2, k3, hzero, hzl, b3, bz, pairsOK, clsOf, compat]
    · have bz : decide (i.r = ⟨i.r.to, 0, 0⟩) = false := decide_eq_false hz
      have hd : doT l i = (l, 1) := by unfold doT; rw [if_pos h3, if_neg (fun hh => hz hh.1)]
      refine ⟨h, [], [], true, ?_, fun _ => ⟨rfl, rfl, rfl, rfl⟩, fun h0 => by rw [hd] at h0; cases h0⟩
      rw [hd, call_at (E := E) (f := 52) (fn := Tryz.f52) rfl Tryz.func52 rfl (Nat.le_of_ble_eq_true rfl)]
      simp -implicitDefEqProofs only [simA, Nat.reduceAdd, Nat.reduceLT, Nat.reduceEqDiff, Nat.reduceLeDiff, Nat.reduceMul, Int.reduceBEq, Int.reduceBNe, Int.reduceLT, Int.reduceLE, Int.reduceAdd, Int.reduceSub, Int.reduceMul, Int.reduceNeg, Nat.reduceSub, Nat.reducePow, Nat.reduceDiv, Nat.reduceMod, fo_60_1, fo_58_0, sz_55, agg_55, pe_37, pn_37, ps_37, pz_37, py_37, fo_60_0, sz_3, agg_3, sz_58, agg_58, bd_58, keep_52, E_masks, masks, rows_52, Tryz.f52, hli, hai, hti, hlr, har, hlp, hap, htp, inc_nav0, inc_nav1, inc_nav2, k1, k2, k3, hzero, hzl, b3, bz, pairsOK, clsOf, compat]
  · have b3 : (i.kind == 3) = false := by simp [h3]
    by_cases h12 : (i.kind = 1 ∨ i.kind = 2) ∧ rightR i.r = true
    · obtain ⟨hk, hr⟩ := h12
      rw [hr] at k2
      by_cases hh : has l i.r.to = true
      · rw [hh] at k1
        by_cases h1 : i.kind = 1
        · have b1 : (i.kind == 1) = true := by simp [h1]
          have b1' : (i.kind != 1) = false := by simp [h1]
          have hd : doT l i = (l, 9) := by unfold doT; rw [if_neg h3, if_pos ⟨hk, hr⟩, if_pos hh, if_pos h1]
          refine ⟨h, [], [], true, ?_, fun _ => ⟨rfl, rfl, rfl, rfl⟩, fun h0 => by rw [hd] at h0; cases h0⟩
          rw [hd, call_at (E := E) (f := 52) (fn := Tryz.f52) rfl Tryz.func52 rfl (Nat.le_of_ble_eq_true rfl)]
          simp -implicitDefEqProofs only [simA, Nat.reduceAdd, Nat.reduceLT, Nat.reduceEqDiff, Nat.reduceLeDiff, Nat.reduceMul, Int.reduceBEq, Int.reduceBNe, Int.reduceLT, Int.reduceLE, Int.reduceAdd, Int.reduceSub, Int.reduceMul, Int.reduceNeg, Nat.reduceSub, Nat.reducePow, Nat.reduceDiv, Nat.reduceMod, fo_60_1, fo_58_0, sz_55, agg_55, pe_37, pn_37, ps_37, pz_37, py_37, fo_60_0, sz_3, agg_3, sz_58, agg_58, bd_58, keep_52, E_masks, masks, rows_52, Tryz.f52, hli, hai, hti, hlr, har, hlp, hap, htp, inc_nav0, inc_nav1, inc_nav2, k1, k2, k3, hzero, hzl, b3, b1, b1', pairsOK, clsOf, compat]
        · have h2 : i.kind = 2 := by rcases hk with hk | hk; exact (h1 hk).elim; exact hk
          have b1 : (i.kind == 1) = false := by simp [h1]
          have b1' : (i.kind != 1) = true := by simp [h1]
          have b2 : (i.kind == 2) = true := by simp [h2]
          have b2' : (i.kind != 2) = false := by simp [h2]
          have hd : doT l i = (l.set (pos l i.r.to) i.r, 0) := by unfold doT; rw [if_neg h3, if_pos ⟨hk, hr⟩, if_pos hh, if_neg h1]
          obtain ⟨r0, hr0, _⟩ := has_some T.ok hi.2.1 hh
          rcases T.view with ⟨_, rfl⟩ | ⟨_, rfl⟩ | ⟨rid, g, els, fl, rfl, v1, v2, v3, v4⟩
          · simp at hr0
          · simp at hr0
          have hR := lt_of_getElem? v3
          have e1 := put_there n (h ++ [.row 21 0 [i.av] ⟨true, 60⟩]) n0 tid rid g els fl l i.r T1 hi.2 hr hh (by rw [List.getElem?_append_left hR]; exact v3) v4
          have hset : ((h ++ [Row.row 21 0 [i.av] ⟨true, 60⟩]).set rid (.row 20 g (els.set (pos l i.r.to) i.r.av) ⟨fl, 58⟩)).take h.length = h.set rid (.row 20 g (els.set (pos l i.r.to) i.r.av) ⟨fl, 58⟩) := by
            rw [List.set_append_left _ _ hR, List.take_left' (by simp)]
          have hins : ins rid [] = [rid] := rfl
          refine ⟨h.set rid (.row 20 g (els.set (pos l i.r.to) i.r.av) ⟨fl, 58⟩), [rid], [], false, ?_, fun hne => by rw [hd] at hne; exact (hne rfl).elim, fun _ => ⟨rfl, by rw [hd]; exact left_there T hi.2 hh v1 v2 v3 v4⟩⟩
          rw [hd, call_at (E := E) (f := 52) (fn := Tryz.f52) rfl Tryz.func52 rfl (Nat.le_of_ble_eq_true rfl)]
          simp -implicitDefEqProofs only [simA, Nat.reduceAdd, Nat.reduceLT, Nat.reduceEqDiff, Nat.reduceLeDiff, Nat.reduceMul, Int.reduceBEq, Int.reduceBNe, Int.reduceLT, Int.reduceLE, Int.reduceAdd, Int.reduceSub, Int.reduceMul, Int.reduceNeg, Nat.reduceSub, Nat.reducePow, Nat.reduceDiv, Nat.reduceMod, fo_60_1, fo_58_0, sz_55, agg_55, pe_37, pn_37, ps_37, pz_37, py_37, fo_60_0, sz_3, agg_3, sz_58, agg_58, bd_58, keep_52, E_masks, masks, rows_52, Tryz.f52, hli, hai, hti, hlr, har, hlp, hap, htp, inc_nav0, inc_nav1, inc_nav2, k1, k2, k3, hzero, hzl, b3, b1, b1', b2, b2', e1, hR, hins, pairsOK, clsOf, compat]
          rw [hset]
      · have hh' : has l i.r.to = false := by simpa using hh
        rw [hh'] at k1
        by_cases h2 : i.kind = 2
        · have b1 : (i.kind == 1) = false := by simp [h2]
          have b1' : (i.kind != 1) = true := by simp [h2]
          have b2 : (i.kind == 2) = true := by simp [h2]
          have b2' : (i.kind != 2) = false := by simp [h2]
          have hd : doT l i = (l, 8) := by unfold doT; rw [if_neg h3, if_pos ⟨hk, hr⟩, if_neg hh, if_pos h2]
          refine ⟨h, [], [], true, ?_, fun _ => ⟨rfl, rfl, rfl, rfl⟩, fun h0 => by rw [hd] at h0; cases h0⟩
          rw [hd, call_at (E := E) (f := 52) (fn := Tryz.f52) rfl Tryz.func52 rfl (Nat.le_of_ble_eq_true rfl)]
          simp -implicitDefEqProofs only [simA, Nat.reduceAdd, Nat.reduceLT, Nat.reduceEqDiff, Nat.reduceLeDiff, Nat.reduceMul, Int.reduceBEq, Int.reduceBNe, Int.reduceLT, Int.reduceLE, Int.reduceAdd, Int.reduceSub, Int.reduceMul, Int.reduceNeg, Nat.reduceSub, Nat.reducePow, Nat.reduceDiv, Nat.reduceMod, fo_60_1, fo_58_0, sz_55, agg_55, pe_37, pn_37, ps_37, pz_37, py_37, fo_60_0, sz_3, agg_3, sz_58, agg_58, bd_58, keep_52, E_masks, masks, rows_52, Tryz.f52, hli, hai, hti, hlr, har, hlp, hap, htp, inc_nav0, inc_nav1, inc_nav2, k1, k2, k3, hzero, hzl, b3, b1, b1', b2, b2', pairsOK, clsOf, compat]
        · have h1 : i.kind = 1 := by rcases hk with hk | hk; exact hk; exact (h2 hk).elim
          have b1 : (i.kind == 1) = true := by simp [h1]
          have b1' : (i.kind != 1) = false := by simp [h1]
          have b2 : (i.kind == 2) = false := by simp [h1]
          have b2' : (i.kind != 2) = true := by simp [h1]
          by_cases hf : 300 ≤ l.length
          · have hd : doT l i = (l, 7) := by unfold doT; rw [if_neg h3, if_pos ⟨hk, hr⟩, if_neg hh, if_neg h2, if_pos hf]
            have e1 := put_full n (h ++ [.row 21 0 [i.av] ⟨true, 60⟩]) n0 tid s l i.r T1 hi.2 hr hh' hf
            refine ⟨h, [], [], true, ?_, fun _ => ⟨rfl, rfl, rfl, rfl⟩, fun h0 => by rw [hd] at h0; cases h0⟩
            rw [hd, call_at (E := E) (f := 52) (fn := Tryz.f52) rfl Tryz.func52 rfl (Nat.le_of_ble_eq_true rfl)]
            simp -implicitDefEqProofs only [simA, Nat.reduceAdd, Nat.reduceLT, Nat.reduceEqDiff, Nat.reduceLeDiff, Nat.reduceMul, Int.reduceBEq, Int.reduceBNe, Int.reduceLT, Int.reduceLE, Int.reduceAdd, Int.reduceSub, Int.reduceMul, Int.reduceNeg, Nat.reduceSub, Nat.reducePow, Nat.reduceDiv, Nat.reduceMod, fo_60_1, fo_58_0, sz_55, agg_55, pe_37, pn_37, ps_37, pz_37, py_37, fo_60_0, sz_3, agg_3, sz_58, agg_58, bd_58, keep_52, E_masks, masks, rows_52, Tryz.f52, hli, hai, hti, hlr, har, hlp, hap, htp, inc_nav0, inc_nav1, inc_nav2, k1, k2, k3, hzero, hzl, b3, b1, b1', b2, b2', e1, pairsOK, clsOf, compat]
          · have hd : doT l i = (insAt l (pos l i.r.to) i.r, 0) := by unfold doT; rw [if_neg h3, if_pos ⟨hk, hr⟩, if_neg hh, if_neg h2, if_neg hf]
            obtain ⟨h', ds, e1, L⟩ := put_new n (h ++ [.row 21 0 [i.av] ⟨true, 60⟩]) n0 tid s l i.r T1 hi.2 hr hh' (by omega)
            have hins : ins tid [] = [tid] := rfl
            refine ⟨h', mergeLt h.length ds [], [tid], false, ?_, fun hne => by rw [hd] at hne; exact (hne rfl).elim, fun _ => ⟨rfl, by rw [hd]; exact L.less hn0 (fun hd => ge_merge hd (fun d hd => nomatch hd)) (fun hl => hl)⟩⟩
            rw [hd, call_at (E := E) (f := 52) (fn := Tryz.f52) rfl Tryz.func52 rfl (Nat.le_of_ble_eq_true rfl)]
            simp -implicitDefEqProofs only [simA, Nat.reduceAdd, Nat.reduceLT, Nat.reduceEqDiff, Nat.reduceLeDiff, Nat.reduceMul, Int.reduceBEq, Int.reduceBNe, Int.reduceLT, Int.reduceLE, Int.reduceAdd, Int.reduceSub, Int.reduceMul, Int.reduceNeg, Nat.reduceSub, Nat.reducePow, Nat.reduceDiv, Nat.reduceMod, fo_60_1, fo_58_0, sz_55, agg_55, pe_37, pn_37, ps_37, pz_37, py_37, fo_60_0, sz_3, agg_3, sz_58, agg_58, bd_58, keep_52, E_masks, masks, rows_52, Tryz.f52, hli, hai, hti, hlr, har, hlp, hap, htp, inc_nav0, inc_nav1, inc_nav2, k1, k2, k3, hzero, hzl, b3, b1, b1', b2, b2', e1, hT, hins, pairsOK, clsOf, compat]
    · have hd : doT l i = (l, 1) := by unfold doT; rw [if_neg h3, if_neg h12]
      refine ⟨h, [], [], true, ?_, fun _ => ⟨rfl, rfl, rfl, rfl⟩, fun h0 => by rw [hd] at h0; cases h0⟩
      rw [hd, call_at (E := E) (f := 52) (fn := Tryz.f52) rfl Tryz.func52 rfl (Nat.le_of_ble_eq_true rfl)]
      by_cases h1 : i.kind = 1
      · have b1' : (i.kind != 1) = false := by simp [h1]
        have hr : rightR i.r = false := by cases hr : rightR i.r with | false => rfl | true => exact (h12 ⟨.inl h1, hr⟩).elim
        rw [hr] at k2
        simp -implicitDefEqProofs only [simA, Nat.reduceAdd, Nat.reduceLT, Nat.reduceEqDiff, Nat.reduceLeDiff, Nat.reduceMul, Int.reduceBEq, Int.reduceBNe, Int.reduceLT, Int.reduceLE, Int.reduceAdd, Int.reduceSub, Int.reduceMul, Int.reduceNeg, Nat.reduceSub, Nat.reducePow, Nat.reduceDiv, Nat.reduceMod, fo_60_1, fo_58_0, sz_55, agg_55, pe_37, pn_37, ps_37, pz_37, py_37, fo_60_0, sz_3, agg_3, sz_58, agg_58, bd_58, keep_52, E_masks, masks, rows_52, Tryz.f52, hli, hai, hti, hlr, har, hlp, hap, htp, inc_nav0, inc_nav1, inc_nav2, k1, k2, k3, hzero, hzl, b3, b1', pairsOK, clsOf, compat]
      · have b1' : (i.kind != 1) = true := by simp [h1]
        by_cases h2 : i.kind = 2
        · have b2' : (i.kind != 2) = false := by simp [h2]
          have hr : rightR i.r = false := by cases hr : rightR i.r with | false => rfl | true => exact (h12 ⟨.inr h2, hr⟩).elim
          rw [hr] at k2
          simp -implicitDefEqProofs only [simA, Nat.reduceAdd, Nat.reduceLT, Nat.reduceEqDiff, Nat.reduceLeDiff, Nat.reduceMul, Int.reduceBEq, Int.reduceBNe, Int.reduceLT, Int.reduceLE, Int.reduceAdd, Int.reduceSub, Int.reduceMul, Int.reduceNeg, Nat.reduceSub, Nat.reducePow, Nat.reduceDiv, Nat.reduceMod, fo_60_1, fo_58_0, sz_55, agg_55, pe_37, pn_37, ps_37, pz_37, py_37, fo_60_0, sz_3, agg_3, sz_58, agg_58, bd_58, keep_52, E_masks, masks, rows_52, Tryz.f52, hli, hai, hti, hlr, har, hlp, hap, htp, inc_nav0, inc_nav1, inc_nav2, k1, k2, k3, hzero, hzl, b3, b1', b2', pairsOK, clsOf, compat]
        · have b2' : (i.kind != 2) = true := by simp [h2]
          simp -implicitDefEqProofs only [simA, Nat.reduceAdd, Nat.reduceLT, Nat.reduceEqDiff, Nat.reduceLeDiff, Nat.reduceMul, Int.reduceBEq, Int.reduceBNe, Int.reduceLT, Int.reduceLE, Int.reduceAdd, Int.reduceSub, Int.reduceMul, Int.reduceNeg, Nat.reduceSub, Nat.reducePow, Nat.reduceDiv, Nat.reduceMod, fo_60_1, fo_58_0, sz_55, agg_55, pe_37, pn_37, ps_37, pz_37, py_37, fo_60_0, sz_3, agg_3, sz_58, agg_58, bd_58, keep_52, E_masks, masks, rows_52, Tryz.f52, hli, hai, hti, hlr, har, hlp, hap, htp, inc_nav0, inc_nav1, inc_nav2, k1, k2, k3, hzero, hzl, b3, b1', b2', pairsOK, clsOf, compat]

end Go.Proofs.YtobdjegooonklaaGreat

set_option linter.unusedSimpArgs false
set_option linter.unusedVariables false
set_option maxRecDepth 100000
set_option maxHeartbeats 1000000
namespace Go.Proofs.YtobdjegooonklaaGreat
open Go Go.AM

theorem eq36_sl {ox oy : Operand} {id g o n : Nat} : binE E.P .eql 36 ox oy (.sl id g o n) (.v (.slice none 0 0)) = some (.v (.bool false)) := by simp [binE, AM.toV, und_36, nilEq]
theorem eq36_lit {ox oy : Operand} {k : Nat} {b : Bool} {l : List AV} : binE E.P .eql 36 ox oy (.lit k b l) (.v (.slice none 0 0)) = some (.v (.bool false)) := by simp [binE, AM.toV, und_36, nilEq]
theorem eq36_nil {ox oy : Operand} : binE E.P .eql 36 ox oy (.v (.slice none 0 0)) (.v (.slice none 0 0)) = some (.v (.bool true)) := by kernel_rfl

theorem RV.src {h : Heap} {x : AV} {l : List Route} (v : RV h x l) : srS h 20 x = some (l.map Route.av) := by
  rcases v with ⟨rfl, rfl⟩ | ⟨b, rfl⟩ | ⟨id, g, els, ex, rfl, hr, ht⟩
  · rfl
  · simp [Zet]
  · have hle : l.length ≤ els.length := by
      have := congrArg List.length ht
      simp at this
      omega
    rw [srS_sl]
    simp [elsOf, hr, bleE, hle, ht]

/-- What a copy of routes is. -/
def Cpy (h : Heap) (l : List Route) (s' : AV) (h' : Heap) : Prop := (s' = nilS ∧ l = [] ∧ h' = h) ∨ (s' = .lit 20 true [] ∧ l = [] ∧ h' = h) ∨ (l ≠ [] ∧ s' = .sl h.length 0 0 l.length ∧ h' = h ++ [.row 20 0 (l.map Route.av) ⟨false, 58⟩])
theorem Cpy.view {h h' : Heap} {l : List Route} {s' : AV} (c : Cpy h l s' h') {n0 tid : Nat} (hn : n0 ≤ h.length) (ht : h.length ≠ tid) : View n0 tid h' s' l := by
  rcases c with ⟨rfl, rfl, rfl⟩ | ⟨rfl, rfl, rfl⟩ | ⟨hne, rfl, rfl⟩
  · exact .inl ⟨rfl, rfl⟩
  · exact .inr (.inl ⟨rfl, rfl⟩)
  · exact .inr (.inr ⟨h.length, 0, l.map Route.av, false, rfl, hn, ht, by rw [end0]; rfl, by rw [List.take_of_length_le (by simp)]⟩)
theorem Cpy.old {h h' : Heap} {l : List Route} {s' : AV} (c : Cpy h l s' h') : h.length ≤ h'.length ∧ ∀ j, j < h.length → h'[j]? = h[j]? := by
  rcases c with ⟨rfl, rfl, rfl⟩ | ⟨rfl, rfl, rfl⟩ | ⟨hne, rfl, rfl⟩
  · exact ⟨Nat.le_refl _, fun _ _ => rfl⟩
  · exact ⟨Nat.le_refl _, fun _ _ => rfl⟩
  · exact ⟨by simp, fun j hj => List.getElem?_append_left hj⟩

theorem app_cpy {h : Heap} {l : List Route} (hl : l.length < 490) : ∃ s' h' sto c, apO h 58 20 48 (.lit 20 true []) (some (l.map Route.av)) = some (s', h', sto, c) ∧ sto = none ∧ Cpy h l s' h' ∧ s' ≠ nilS := by
  have hby : l.length * 48 ≤ 140737488355328 := by omega
  cases l with
  | nil => exact ⟨.lit 20 true [], h, none, .quiet, by simp [Zer, Zev, sliceLen], rfl, .inr (.inl ⟨rfl, rfl, rfl⟩), by simp⟩
  | cons r l =>
    refine ⟨.sl h.length 0 0 (r :: l).length, h ++ [.row 20 0 ((r :: l).map Route.av) ⟨false, 58⟩], none, .st h.length, ?_, rfl, .inr (.inr ⟨by simp, rfl, rfl⟩), by simp⟩
    have hby' : (l.length + 1) * 48 ≤ 140737488355328 := by simpa using hby
    simp [Zer, Zev, sliceLen]
    exact hby'

theorem c50 (n : Nat) (h : Heap) (s : AV) (l : List Route) (v : RV h s l) (hl : l.length < 490) : ∃ s' h', call E (n + 1) 50 [s] h = some (s', h', ⟨[], [], false⟩) ∧ Cpy h l s' h' := by
  have hsrc := v.src
  obtain ⟨s', h', sto, c, e1, rfl, e2, _⟩ := app_cpy (h := h) hl
  rcases v with ⟨rfl, rfl⟩ | ⟨b, rfl⟩ | ⟨id, g, els, ex, rfl, hr, ht⟩
  · refine ⟨nilS, h, ?_, .inl ⟨rfl, rfl, rfl⟩⟩
    rw [call_at (E := E) (f := 50) (fn := Tryz.f50) rfl Tryz.func50 rfl (Nat.le_of_ble_eq_true rfl)]
    simp -implicitDefEqProofs only [simA, Nat.reduceAdd, Nat.reduceLT, Nat.reduceEqDiff, Nat.reduceLeDiff, Nat.reduceMul, Int.reduceBEq, Int.reduceBNe, Int.reduceLT, Int.reduceLE, Int.reduceAdd, Int.reduceSub, Int.reduceMul, Int.reduceNeg, Nat.reduceSub, Nat.reducePow, Nat.reduceDiv, Nat.reduceMod, bs_36_0_50, ap_36_36, src_36, keep_50, E_masks, masks, rows_50, Tryz.f50, eq36_nil]
  · refine ⟨s', h', ?_, e2⟩
    rw [call_at (E := E) (f := 50) (fn := Tryz.f50) rfl Tryz.func50 rfl (Nat.le_of_ble_eq_true rfl)]
    simp -implicitDefEqProofs only [simA, Nat.reduceAdd, Nat.reduceLT, Nat.reduceEqDiff, Nat.reduceLeDiff, Nat.reduceMul, Int.reduceBEq, Int.reduceBNe, Int.reduceLT, Int.reduceLE, Int.reduceAdd, Int.reduceSub, Int.reduceMul, Int.reduceNeg, Nat.reduceSub, Nat.reducePow, Nat.reduceDiv, Nat.reduceMod] at e1
    simp -implicitDefEqProofs only [simA, Nat.reduceAdd, Nat.reduceLT, Nat.reduceEqDiff, Nat.reduceLeDiff, Nat.reduceMul, Int.reduceBEq, Int.reduceBNe, Int.reduceLT, Int.reduceLE, Int.reduceAdd, Int.reduceSub, Int.reduceMul, Int.reduceNeg, Nat.reduceSub, Nat.reducePow, Nat.reduceDiv, Nat.reduceMod, bs_36_0_50, ap_36_36, src_36, keep_50, E_masks, masks, rows_50, Tryz.f50, eq36_lit, hsrc, e1]
  · refine ⟨s', h', ?_, e2⟩
    rw [call_at (E := E) (f := 50) (fn := Tryz.f50) rfl Tryz.func50 rfl (Nat.le_of_ble_eq_true rfl)]
    simp -implicitDefEqProofs only [simA, Nat.reduceAdd, Nat.reduceLT, Nat.reduceEqDiff, Nat.reduceLeDiff, Nat.reduceMul, Int.reduceBEq, Int.reduceBNe, Int.reduceLT, Int.reduceLE, Int.reduceAdd, Int.reduceSub, Int.reduceMul, Int.reduceNeg, Nat.reduceSub, Nat.reducePow, Nat.reduceDiv, Nat.reduceMod] at e1
    simp -implicitDefEqProofs only [simA, Nat.reduceAdd, Nat.reduceLT, Nat.reduceEqDiff, Nat.reduceLeDiff, Nat.reduceMul, Int.reduceBEq, Int.reduceBNe, Int.reduceLT, Int.reduceLE, Int.reduceAdd, Int.reduceSub, Int.reduceMul, Int.reduceNeg, Nat.reduceSub, Nat.reducePow, Nat.reduceDiv, Nat.reduceMod, bs_36_0_50, ap_36_36, src_36, keep_50, E_masks, masks, rows_50, Tryz.f50, eq36_sl, hsrc, e1]

theorem c17 (n : Nat) (h : Heap) (tid : Nat) (s : AV) (l : List Route) (ht : h[tid]? = some (.row 1 0 [.agg [s]] ⟨true, 99⟩)) (v : RV h s l) (hl : l.length < 490) : ∃ s' h', call E (n + 501) 17 [.ptr tid 0 0 [] 0] h = some (s', h', ⟨[], [], false⟩) ∧ Cpy h l s' h' := by
  obtain ⟨s', h', e1, e2⟩ := c50 (n + 499) h s l v hl
  have hls := sliceLen_one v.len
  refine ⟨s', h', ?_, e2⟩
  rw [call_at (E := E) (f := 17) (fn := Tryz.f17) rfl Tryz.func17 rfl (Nat.le_of_ble_eq_true rfl)]
  simp -implicitDefEqProofs only [simA, Nat.reduceAdd, Nat.reduceLT, Nat.reduceEqDiff, Nat.reduceLeDiff, Nat.reduceMul, Int.reduceBEq, Int.reduceBNe, Int.reduceLT, Int.reduceLE, Int.reduceAdd, Int.reduceSub, Int.reduceMul, Int.reduceNeg, Nat.reduceSub, Nat.reducePow, Nat.reduceDiv, Nat.reduceMod, pe_37, pn_37, ps_37, pz_37, py_37, fo_99_0, sz_36, agg_36, keep_17, E_masks, masks, rows_17, Tryz.f17, ht, hls.1, hls.2, e1]

theorem Cpy.fit {h h' : Heap} {l : List Route} {s' : AV} (c : Cpy h l s' h') : AM.leafs s' = 1 ∧ isTupA s' = false := by
  rcases c with ⟨rfl, rfl, rfl⟩ | ⟨rfl, rfl, rfl⟩ | ⟨hne, rfl, rfl⟩ <;> exact ⟨rfl, rfl⟩

theorem c51 (n : Nat) (h : Heap) (tid : Nat) (s : AV) (l : List Route) (ht : h[tid]? = some (.row 1 0 [.agg [s]] ⟨true, 99⟩)) (v : RV h s l) (hok : ∀ r ∈ l, r.ok) (hl : l.length < 490) (hs : Sorted l) :
    ∃ s' h' t', call E (n + 502) 51 [.ptr tid 0 0 [] 0] h = some (.ptr t' 0 0 [] 0, h', ⟨[], [], false⟩) ∧ Tab h.length h' t' s' l ∧ h.length ≤ h'.length ∧ ∀ j, j < h.length → h'[j]? = h[j]? := by
  obtain ⟨s', h', e1, e2⟩ := c17 n h tid s l ht v hl
  have hf := e2.fit
  obtain ⟨o1, o2⟩ := e2.old
  have hne : h.length ≠ h'.length ∨ l = [] := by
    rcases e2 with ⟨_, h0, _⟩ | ⟨_, h0, _⟩ | ⟨_, _, rfl⟩
    · exact .inr h0
    · exact .inr h0
    · left; simp
  refine ⟨s', h' ++ [.row 1 0 [.agg [s']] ⟨true, 99⟩], h'.length, ?_, ⟨by rw [end0]; rfl, o1, ?_, hok, hl, hs⟩, by simp; omega, fun j hj => by rw [List.getElem?_append_left (by omega), o2 j hj]⟩
  · rw [call_at (E := E) (f := 51) (fn := Tryz.f51) rfl Tryz.func51 rfl (Nat.le_of_ble_eq_true rfl)]
    simp -implicitDefEqProofs only [simA, Nat.reduceAdd, Nat.reduceLT, Nat.reduceEqDiff, Nat.reduceLeDiff, Nat.reduceMul, Int.reduceBEq, Int.reduceBNe, Int.reduceLT, Int.reduceLE, Int.reduceAdd, Int.reduceSub, Int.reduceMul, Int.reduceNeg, Nat.reduceSub, Nat.reducePow, Nat.reduceDiv, Nat.reduceMod, pe_37, pn_37, ps_37, pz_37, py_37, bd_99, keep_51, E_masks, masks, rows_51, Tryz.f51, e1, hf.1, hf.2]
  · rcases hne with hne | rfl
    · exact (e2.view (Nat.le_refl _) hne).push _
    · rcases e2 with ⟨rfl, _, _⟩ | ⟨rfl, _, _⟩ | ⟨h0, _⟩
      · exact .inl ⟨rfl, rfl⟩
      · exact .inr (.inl ⟨rfl, rfl⟩)
      · exact (h0 rfl).elim

/-- Changes folded: the routes, how many, the error. -/
def foldT : List Route → List Inc → Nat → List Route × Nat × Int
  | l, [], k => (l, k, 0)
  | l, i :: L, k => if (doT l i).2 = 0 then foldT (doT l i).1 L (k + 1) else (l, k, (doT l i).2)

theorem merge_ge {n0 : Nat} : ∀ {r : List Nat}, (∀ d ∈ r, n0 ≤ d) → mergeLt n0 r [] = []
  | [], _ => rfl
  | a :: r, h => by
    have ha := h a (List.mem_cons_self ..)
    have hb : Nat.blt a n0 = false := by rw [bltE]; exact decide_eq_false (by omega)
    simp only [mergeLt, insLt, hb, cond_false]
    exact merge_ge fun d hd => h d (List.mem_cons_of_mem _ hd)

theorem loop18 (n : Nat) (h : Heap) (x : AV) (all : List Inc) (t' : Nat) (sv : SlV h 21 x (all.map Inc.av)) (hok : ∀ i ∈ all, i.ok) (hbig : all.length < 490) : ∀ (rest pre : List Inc) (j : Nat) (fr : FR) (H : Heap) (s : AV) (l : List Route), pre ++ rest = all → rest.length < j → (∀ q, q < h.length → H[q]? = h[q]?) → h.length ≤ H.length → Tab h.length H t' s l →
    keepF (masks 18) fr = [(0, .ptr t' 0 0 [] 0), (1, x), (14, x), (15, .v (.int .i64 (all.length : Nat))), (16, .v (.int .i64 (pre.length : Nat)))] →
    ∃ fr' H', ((foldT l rest pre.length).2.2 = 0 ∧ (foldT l rest pre.length).2.1 = all.length ∧ loopN (exec E (call E (n + 507)) (n + 507) 18 32 h.length (loopB Tryz.f18 0)) (masks 18) j ⟨fr, H, [], []⟩ = some (.exit 0, ⟨fr', H', [], []⟩) ∧ AM.get fr' 0 = some (.ptr t' 0 0 [] 0) ∧ AM.get fr' 1 = some x ∧
        (∃ s', Tab h.length H' t' s' (foldT l rest pre.length).1) ∧ h.length ≤ H'.length ∧ (∀ q, q < h.length → H'[q]? = h[q]?)) ∨
      ((foldT l rest pre.length).2.2 ≠ 0 ∧ loopN (exec E (call E (n + 507)) (n + 507) 18 32 h.length (loopB Tryz.f18 0)) (masks 18) j ⟨fr, H, [], []⟩ = some (.ret, ⟨fr', H', [], []⟩) ∧ AM.get fr' 4 = some (.v (.pointer none)) ∧ AM.get fr' 5 = some (.v (.int .i64 ((foldT l rest pre.length).2.1 : Nat))) ∧ AM.get fr' 6 = some (.v (.int .i64 (foldT l rest pre.length).2.2)))
  | [], pre, j, fr, H, s, l, h1, hj, hold, hlen, T, hk => by
    obtain ⟨j, rfl⟩ : ∃ i, j = i + 1 := ⟨j - 1, by simp at hj; omega⟩
    have hi : ¬ ((pre.length : Int) < (all.length : Int)) := by rw [← h1]; simp
    have he : ∃ fr', exec E (call E (n + 507)) (n + 507) 18 32 h.length (loopB Tryz.f18 0) ⟨[(0, .ptr t' 0 0 [] 0), (1, x), (14, x), (15, .v (.int .i64 (all.length : Nat))), (16, .v (.int .i64 (pre.length : Nat)))], H, [], []⟩ = some (.exit 0, ⟨fr', H, [], []⟩) ∧ AM.get fr' 0 = some (.ptr t' 0 0 [] 0) ∧ AM.get fr' 1 = some x := by
      rw [exec_code]
      simp -implicitDefEqProofs only [simA, Nat.reduceAdd, Nat.reduceLT, Nat.reduceEqDiff, Nat.reduceLeDiff, Nat.reduceMul, Int.reduceBEq, Int.reduceBNe, Int.reduceLT, Int.reduceLE, Int.reduceAdd, Int.reduceSub, Int.reduceMul, Int.reduceNeg, Nat.reduceSub, Nat.reducePow, Nat.reduceDiv, Nat.reduceMod, pe_37, pn_37, ps_37, pz_37, py_37, ln_22, und_22, sz_60, agg_60, zero_60, keep_18, E_masks, masks, rows_18, Tryz.f18, hi]
      exact ⟨_, rfl, rfl, rfl⟩
    obtain ⟨fr', e1, e2, e3⟩ := he
    exact ⟨fr', H, .inl ⟨rfl, by simp [foldT, ← h1], loopN_outK hk e1, e2, e3, ⟨s, T⟩, hlen, hold⟩⟩
  | i :: rest, pre, j, fr, H, s, l, h1, hj, hold, hlen, T, hk => by
    obtain ⟨j, rfl⟩ : ∃ i, j = i + 1 := ⟨j - 1, by simp at hj; omega⟩
    have hi : ((pre.length : Int) < (all.length : Int)) := by rw [← h1]; simp; omega
    have hio : i.ok := hok i (by rw [← h1]; simp)
    have sv' : SlV H 21 x (all.map Inc.av) := sv.stay hold
    obtain ⟨a, ha1, ha2⟩ := sv'.at (t := 22) (e := 60) und_22 sz_60 (j := pre.length) (y := i.av) (by rw [← h1]; simp)
    have hli : AM.leafs i.av = 21 := Inc.leafs hio
    have hai : isAggA i.av = true := rfl
    have hti : isTupA i.av = false := rfl
    have hzl : leafsL (List.replicate 16 (AV.v (.int .u8 0))) = 16 := by kernel_rfl
    have hidf : idfree i.av = true := by
      have := idfree_route i.r
      simp [Inc.av, idfree, idfreeL, this]
    have w1 := wrapN1 (n := pre.length) (by rw [← h1] at hbig; simp at hbig; omega)
    have hT := lt_of_getElem? T.row
    have hH : ¬ H.length < h.length := by omega
    have T1 : Tab h.length (H ++ [.row 21 0 [i.av] ⟨true, 60⟩]) t' s l := ⟨by rw [List.getElem?_append_left hT]; exact T.row, T.lo, T.view.push _, T.ok, T.most, T.sorted⟩
    obtain ⟨h', ds, ls, q, e1, e2, e3⟩ := do_run n (H ++ [.row 21 0 [i.av] ⟨true, 60⟩]) h.length t' s l i T1 hio
    by_cases hz : (doT l i).2 = 0
    · obtain ⟨rfl, ⟨s', T2⟩, L2, L3, L4, L5⟩ := e3 hz
      rw [hz] at e1
      have m1 := merge_ge L4
      have m2 := merge_ge L5
      have hfold : foldT l (i :: rest) pre.length = foldT (doT l i).1 rest (pre ++ [i]).length := by
        rw [foldT, if_pos hz]
        simp
      have he : ∃ fr1, exec E (call E (n + 507)) (n + 507) 18 32 h.length (loopB Tryz.f18 0) ⟨[(0, .ptr t' 0 0 [] 0), (1, x), (14, x), (15, .v (.int .i64 (all.length : Nat))), (16, .v (.int .i64 (pre.length : Nat)))], H, [], []⟩ = some (.normal, ⟨fr1, h', [], []⟩) ∧
          keepF (masks 18) fr1 = [(0, .ptr t' 0 0 [] 0), (1, x), (14, x), (15, .v (.int .i64 (all.length : Nat))), (16, .v (.int .i64 ((pre.length + 1 : Nat) : Int)))] := by
        rw [exec_code]
        simp -implicitDefEqProofs only [simA, Nat.reduceAdd, Nat.reduceLT, Nat.reduceEqDiff, Nat.reduceLeDiff, Nat.reduceMul, Int.reduceBEq, Int.reduceBNe, Int.reduceLT, Int.reduceLE, Int.reduceAdd, Int.reduceSub, Int.reduceMul, Int.reduceNeg, Nat.reduceSub, Nat.reducePow, Nat.reduceDiv, Nat.reduceMod, pe_37, pn_37, ps_37, pz_37, py_37, ln_22, und_22, sz_60, agg_60, zero_60, keep_18, E_masks, masks, rows_18, Tryz.f18, hi, ha1, ha2, hli, hai, hti, hzl, hidf, storeE, w1, e1, m1, m2, hH, pairsOK, clsOf, compat]
        exact ⟨_, rfl, rfl⟩
      obtain ⟨fr1, g1, g2⟩ := he
      have hold' : ∀ q, q < h.length → h'[q]? = h[q]? := fun q hq => by
        rw [L3 q hq, List.getElem?_append_left (by omega), hold q hq]
      obtain ⟨fr', H', hcase⟩ := loop18 n h x all t' sv hok hbig rest (pre ++ [i]) j fr1 h' s' (doT l i).1 (by rw [← h1]; simp) (by simp at hj; omega) hold' (by simp at L2; omega) T2 (by rw [g2]; simp)
      rw [hfold, loopN_stepK hk g1]
      exact ⟨fr', H', hcase⟩
    · obtain ⟨rfl, rfl, rfl, rfl⟩ := e2 hz
      have hfold : foldT l (i :: rest) pre.length = (l, pre.length, (doT l i).2) := by rw [foldT, if_neg hz]
      have bz : ((doT l i).2 != 0) = true := by simpa using hz
      have he : ∃ fr1, exec E (call E (n + 507)) (n + 507) 18 32 h.length (loopB Tryz.f18 0) ⟨[(0, .ptr t' 0 0 [] 0), (1, x), (14, x), (15, .v (.int .i64 (all.length : Nat))), (16, .v (.int .i64 (pre.length : Nat)))], H, [], []⟩ = some (.ret, ⟨fr1, H ++ [.row 21 0 [i.av] ⟨true, 60⟩], [], []⟩) ∧
          AM.get fr1 4 = some (.v (.pointer none)) ∧ AM.get fr1 5 = some (.v (.int .i64 (pre.length : Nat))) ∧ AM.get fr1 6 = some (.v (.int .i64 (doT l i).2)) := by
        rw [exec_code]
        simp -implicitDefEqProofs only [simA, Nat.reduceAdd, Nat.reduceLT, Nat.reduceEqDiff, Nat.reduceLeDiff, Nat.reduceMul, Int.reduceBEq, Int.reduceBNe, Int.reduceLT, Int.reduceLE, Int.reduceAdd, Int.reduceSub, Int.reduceMul, Int.reduceNeg, Nat.reduceSub, Nat.reducePow, Nat.reduceDiv, Nat.reduceMod, pe_37, pn_37, ps_37, pz_37, py_37, ln_22, und_22, sz_60, agg_60, zero_60, keep_18, E_masks, masks, rows_18, Tryz.f18, hi, ha1, ha2, hli, hai, hti, hzl, hidf, storeE, w1, e1, bz, hH, pairsOK, clsOf, compat]
        exact ⟨_, rfl, rfl, rfl, rfl⟩
      obtain ⟨fr1, g1, g2, g3, g4⟩ := he
      rw [hfold]
      exact ⟨fr1, _, .inr ⟨hz, loopN_retK hk g1, g2, g3, g4⟩⟩

theorem c18 (n : Nat) (h : Heap) (tid : Nat) (s : AV) (l : List Route) (x : AV) (all : List Inc) (ht : h[tid]? = some (.row 1 0 [.agg [s]] ⟨true, 99⟩)) (v : RV h s l) (hokl : ∀ r ∈ l, r.ok) (hl : l.length < 490) (hs : Sorted l) (sv : SlV h 21 x (all.map Inc.av)) (hok : ∀ i ∈ all, i.ok) (hbig : all.length < 490) :
    ((foldT l all 0).2.2 = 0 ∧ (foldT l all 0).2.1 = all.length ∧ ∃ t' h' s', call E (n + 508) 18 [.ptr tid 0 0 [] 0, x] h = some (.tup [.ptr t' 0 0 [] 0, .v (.int .i64 (all.length : Nat)), .v (.int .i64 0)], h', ⟨[], [], false⟩) ∧ Tab h.length h' t' s' (foldT l all 0).1 ∧ h.length ≤ h'.length ∧ ∀ q, q < h.length → h'[q]? = h[q]?) ∨
    ((foldT l all 0).2.2 ≠ 0 ∧ call E (n + 508) 18 [.ptr tid 0 0 [] 0, x] h = some (.tup [.v (.pointer none), .v (.int .i64 ((foldT l all 0).2.1 : Nat)), .v (.int .i64 (foldT l all 0).2.2)], h, ⟨[], [], true⟩)) := by
  obtain ⟨s', H, t', e1, T, o1, o2⟩ := c51 (n + 5) h tid s l ht v hokl hl hs
  have hlx : sliceLen x = some all.length := by have := sv.len; simpa using this
  obtain ⟨fr', H', hcase⟩ := loop18 n h x all t' sv hok hbig all [] (n + 507) [(0, .ptr t' 0 0 [] 0), (1, x), (14, x), (15, .v (.int .i64 (all.length : Nat))), (16, .v (.int .i64 0))] H s' l rfl (by omega) o2 o1 T rfl
  have hlo := T.lo
  have hlt : ¬ t' < h.length := by omega
  rcases hcase with ⟨z1, z2, g1, g2, g3, ⟨s2, T2⟩, g4, g5⟩ | ⟨z1, g1, g2, g3, g4⟩
  · left
    refine ⟨z1, z2, t', H', s2, ?_, T2, g4, g5⟩
    simp -implicitDefEqProofs only [simA, Nat.reduceAdd, Nat.reduceLT, Nat.reduceEqDiff, Nat.reduceLeDiff, Nat.reduceMul, Int.reduceBEq, Int.reduceBNe, Int.reduceLT, Int.reduceLE, Int.reduceAdd, Int.reduceSub, Int.reduceMul, Int.reduceNeg, Nat.reduceSub, Nat.reducePow, Nat.reduceDiv, Nat.reduceMod, pe_37, pn_37, ps_37, pz_37, py_37, ln_22, und_22, sz_60, agg_60, zero_60, keep_18, E_masks, masks, rows_18, Tryz.f18] at g1
    rw [call_at (E := E) (f := 18) (fn := Tryz.f18) rfl Tryz.func18 rfl (Nat.le_of_ble_eq_true rfl)]
    simp -implicitDefEqProofs only [simA, Nat.reduceAdd, Nat.reduceLT, Nat.reduceEqDiff, Nat.reduceLeDiff, Nat.reduceMul, Int.reduceBEq, Int.reduceBNe, Int.reduceLT, Int.reduceLE, Int.reduceAdd, Int.reduceSub, Int.reduceMul, Int.reduceNeg, Nat.reduceSub, Nat.reducePow, Nat.reduceDiv, Nat.reduceMod, pe_37, pn_37, ps_37, pz_37, py_37, ln_22, und_22, sz_60, agg_60, zero_60, keep_18, E_masks, masks, rows_18, Tryz.f18, hlx, e1, g1, g2, g3, hlt]
  · right
    refine ⟨z1, ?_⟩
    simp -implicitDefEqProofs only [simA, Nat.reduceAdd, Nat.reduceLT, Nat.reduceEqDiff, Nat.reduceLeDiff, Nat.reduceMul, Int.reduceBEq, Int.reduceBNe, Int.reduceLT, Int.reduceLE, Int.reduceAdd, Int.reduceSub, Int.reduceMul, Int.reduceNeg, Nat.reduceSub, Nat.reducePow, Nat.reduceDiv, Nat.reduceMod, pe_37, pn_37, ps_37, pz_37, py_37, ln_22, und_22, sz_60, agg_60, zero_60, keep_18, E_masks, masks, rows_18, Tryz.f18] at g1
    rw [call_at (E := E) (f := 18) (fn := Tryz.f18) rfl Tryz.func18 rfl (Nat.le_of_ble_eq_true rfl)]
    simp -implicitDefEqProofs only [simA, Nat.reduceAdd, Nat.reduceLT, Nat.reduceEqDiff, Nat.reduceLeDiff, Nat.reduceMul, Int.reduceBEq, Int.reduceBNe, Int.reduceLT, Int.reduceLE, Int.reduceAdd, Int.reduceSub, Int.reduceMul, Int.reduceNeg, Nat.reduceSub, Nat.reducePow, Nat.reduceDiv, Nat.reduceMod, pe_37, pn_37, ps_37, pz_37, py_37, ln_22, und_22, sz_60, agg_60, zero_60, keep_18, E_masks, masks, rows_18, Tryz.f18, hlx, e1, g1, g2, g3, g4]

end Go.Proofs.YtobdjegooonklaaGreat
