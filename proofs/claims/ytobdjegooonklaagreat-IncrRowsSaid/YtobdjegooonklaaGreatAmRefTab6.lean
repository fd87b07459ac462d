/- The reference's tables: changes folded. Conditions: none. -/
import Derived.Test.YtobdjegooonklaaGreatAmRefTab4
set_option linter.unusedSimpArgs false
set_option linter.unusedVariables false
set_option maxRecDepth 100000
set_option maxHeartbeats 1000000
namespace Go.Proofs.YtobdjegooonklaaGreat
open Go Go.AM

/-- What a table's routes are. -/
structure TabL (l : List Route) : Prop where
  ok : ∀ r ∈ l, r.ok
  sorted : Sorted l
  most : l.length ≤ 300

theorem doT_tab {l : List Route} (T : TabL l) {i : Inc} (hi : i.ok) : TabL (doT l i).1 := by
  unfold doT
  split
  · split
    · split
      · rename_i hh
        refine ⟨fun q hq => T.ok q ((del_sub l _).subset hq), T.sorted.sublist (del_sub l _), ?_⟩
        exact Nat.le_trans (del_sub l _).length_le T.most
      · exact T
    · exact T
  · split
    · split
      · split
        · exact T
        · rename_i hh _
          obtain ⟨r0, hr0, hto⟩ := has_some T.ok hi.2.1 hh
          refine ⟨fun q hq => ?_, sorted_set T.sorted hr0 hto.symm, by simpa using T.most⟩
          rcases List.mem_or_eq_of_mem_set hq with hq | rfl
          · exact T.ok q hq
          · exact hi.2
      · split
        · exact T
        · split
          · exact T
          · rename_i hh _ hf
            have hh' : has l i.r.to = false := by simpa using hh
            have hf' : l.length < 300 := by omega
            exact ⟨ins_ok T.ok hi.2, sorted_ins T.sorted T.ok hi.2 hh', by rw [ins_len (pos_le l _)]; omega⟩
    · exact T

theorem inc_nav3 {i : Inc} (hi : i.ok) : nav i.av [1, 1] 19 = some (.v (.int .i64 i.r.metric)) := by
  have := hi.2.1.1
  simp [Inc.av, Route.av, Pre.av, nav, navL, Zfv, Zfw, leafs_ofBytes, AM.leafs, leafsL, this, bleE]
theorem inc_nav4 {i : Inc} (hi : i.ok) : nav i.av [1, 2] 20 = some (.v (.int .u32 i.r.seq)) := by
  have := hi.2.1.1
  simp [Inc.av, Route.av, Pre.av, nav, navL, Zfv, Zfw, leafs_ofBytes, AM.leafs, leafsL, this, bleE]

theorem refdo (n : Nat) (h : Heap) (x : AV) (l : List Route) (i : Inc) (hi : i.ok) (T : TabL l) (s : RV h x l) :
    ((doT l i).2 = 0 ∧ ∃ b, call E (n + 504) 53 [x, i.av] h = some (.tup [.lit 20 b ((doT l i).1.map Route.av), .v (.int .i64 0)], h, ⟨[], [], true⟩)) ∨
    ((doT l i).2 ≠ 0 ∧ call E (n + 504) 53 [x, i.av] h = some (.tup [x, .v (.int .i64 (doT l i).2)], h, ⟨[], [], true⟩)) := by
  have hbig : l.length < 490 := by have := T.most; omega
  have hli : AM.leafs i.av = 21 := Inc.leafs hi
  have hai : isAggA i.av = true := rfl
  have hti : isTupA i.av = false := rfl
  have hlr : AM.leafs i.r.av = 20 := Route.leafs hi.2
  have har : isAggA i.r.av = true := rfl
  have hlp : AM.leafs i.r.to.av = 18 := Pre.leafs hi.2.1
  have hap : isAggA i.r.to.av = true := rfl
  have sH : RV (h ++ [.row 21 0 [i.av] ⟨true, 60⟩]) x l := s.push _
  have k71 := fun m => c71' m (h ++ [.row 21 0 [i.av] ⟨true, 60⟩]) i.r.to hi.2.1
  have k72 := fun m => c72 m (h ++ [.row 21 0 [i.av] ⟨true, 60⟩]) i.r hi.2
  have k60 := fun m => c60f m (h ++ [.row 21 0 [i.av] ⟨true, 60⟩]) x l i.r.to hi.2.1 T.ok sH hbig T.sorted
  have n3 := inc_nav3 hi
  have n4 := inc_nav4 hi
  have hidf : ∀ l : List Route, idfreeL (l.map Route.av) = true := idfree_routes
  by_cases h3 : i.kind = 3
  · have b1 : (i.kind == 1) = false := by simp [h3]
    have b2 : (i.kind == 2) = false := by simp [h3]
    have b3 : (i.kind == 3) = true := by simp [h3]
    have hz : i.r = ⟨i.r.to, 0, 0⟩ ↔ i.r.metric = 0 ∧ i.r.seq = 0 := by
      obtain ⟨k, r⟩ := i
      obtain ⟨t, m, q⟩ := r
      simp
    by_cases hr : right i.r.to = true
    · rw [hr] at k71
      by_cases hm : i.r.metric = 0
      · have bm : (i.r.metric != 0) = false := by simp [hm]
        by_cases hq : i.r.seq = 0
        · have bq : (i.r.seq != 0) = false := by simp [hq]
          by_cases hh : has l i.r.to = true
          · have hd : doT l i = (delAt l (pos l i.r.to), 0) := by unfold doT; rw [if_pos h3, if_pos ⟨hz.2 ⟨hm, hq⟩, hr⟩, if_pos hh]
            obtain ⟨b, e1⟩ := refdrop_there (n + 2) (h ++ [.row 21 0 [i.av] ⟨true, 60⟩]) x l i.r.to hi.2.1 T.ok sH hbig T.sorted hh
            simp only [Nat.add_assoc, Nat.reduceAdd] at e1
            rw [hd]
            refine .inl ⟨rfl, b, ?_⟩
            rw [call_at (E := E) (f := 53) (fn := Tryz.f53) rfl Tryz.func53 rfl (Nat.le_of_ble_eq_true rfl)]
            simp -implicitDefEqProofs only [simA, exL, nlC, newCl, args0, oneOrTup, Nat.reduceAdd, Nat.reduceLT, Nat.reduceEqDiff, Nat.reduceLeDiff, Nat.reduceMul, leafsL, idfree, idfreeL, loadE, partE, fieldAddrE, nav, navL, frz, frzL, Int.reduceBEq, Int.reduceBNe, Int.reduceLT, Int.reduceLE, Int.reduceAdd, Int.reduceSub, Int.reduceMul, Int.reduceNeg, vInt, put, putL, setParts, loopB, loopsIn, Nat.reduceSub, Nat.reducePow, Nat.reduceDiv, Nat.reduceMod, fo_60_0, sz_3, agg_3, fo_60_1, sz_58, agg_58, fo_58_0, sz_55, agg_55, fo_58_1, fo_58_2, sz_56, agg_56, keep_53, E_masks, masks, rows_53, Tryz.f53, hli, hai, hti, hlr, har, hlp, hap, inc_nav0, inc_nav1, inc_nav2, n3, n4, k71, b1, b2, b3, bm, bq, e1, hidf, Zen]
          · have hh' : has l i.r.to = false := by simpa using hh
            have hd : doT l i = (l, 8) := by unfold doT; rw [if_pos h3, if_pos ⟨hz.2 ⟨hm, hq⟩, hr⟩, if_neg hh]
            have e1 := refdrop_none (n + 2) (h ++ [.row 21 0 [i.av] ⟨true, 60⟩]) x l i.r.to hi.2.1 T.ok sH hbig T.sorted hh'
            simp only [Nat.add_assoc, Nat.reduceAdd] at e1
            rw [hd]
            refine .inr ⟨by simp, ?_⟩
            rw [call_at (E := E) (f := 53) (fn := Tryz.f53) rfl Tryz.func53 rfl (Nat.le_of_ble_eq_true rfl)]
            simp -implicitDefEqProofs only [simA, exL, nlC, newCl, args0, oneOrTup, Nat.reduceAdd, Nat.reduceLT, Nat.reduceEqDiff, Nat.reduceLeDiff, Nat.reduceMul, leafsL, idfree, idfreeL, loadE, partE, fieldAddrE, nav, navL, frz, frzL, Int.reduceBEq, Int.reduceBNe, Int.reduceLT, Int.reduceLE, Int.reduceAdd, Int.reduceSub, Int.reduceMul, Int.reduceNeg, vInt, put, putL, setParts, loopB, loopsIn, Nat.reduceSub, Nat.reducePow, Nat.reduceDiv, Nat.reduceMod, fo_60_0, sz_3, agg_3, fo_60_1, sz_58, agg_58, fo_58_0, sz_55, agg_55, fo_58_1, fo_58_2, sz_56, agg_56, keep_53, E_masks, masks, rows_53, Tryz.f53, hli, hai, hti, hlr, har, hlp, hap, inc_nav0, inc_nav1, inc_nav2, n3, n4, k71, b1, b2, b3, bm, bq, e1, s.frz, Zen]
        · have bq : (i.r.seq != 0) = true := by simp [hq]
          have hd : doT l i = (l, 1) := by unfold doT; rw [if_pos h3, if_neg (fun hh => hq (hz.1 hh.1).2)]
          rw [hd]
          refine .inr ⟨by simp, ?_⟩
          rw [call_at (E := E) (f := 53) (fn := Tryz.f53) rfl Tryz.func53 rfl (Nat.le_of_ble_eq_true rfl)]
          simp -implicitDefEqProofs only [simA, exL, nlC, newCl, args0, oneOrTup, Nat.reduceAdd, Nat.reduceLT, Nat.reduceEqDiff, Nat.reduceLeDiff, Nat.reduceMul, leafsL, idfree, idfreeL, loadE, partE, fieldAddrE, nav, navL, frz, frzL, Int.reduceBEq, Int.reduceBNe, Int.reduceLT, Int.reduceLE, Int.reduceAdd, Int.reduceSub, Int.reduceMul, Int.reduceNeg, vInt, put, putL, setParts, loopB, loopsIn, Nat.reduceSub, Nat.reducePow, Nat.reduceDiv, Nat.reduceMod, fo_60_0, sz_3, agg_3, fo_60_1, sz_58, agg_58, fo_58_0, sz_55, agg_55, fo_58_1, fo_58_2, sz_56, agg_56, keep_53, E_masks, masks, rows_53, Tryz.f53, hli, hai, hti, hlr, har, hlp, hap, inc_nav0, inc_nav1, inc_nav2, n3, n4, k71, b1, b2, b3, bm, bq, s.frz, Zen]
      · have bm : (i.r.metric != 0) = true := by simp [hm]
        have hd : doT l i = (l, 1) := by unfold doT; rw [if_pos h3, if_neg (fun hh => hm (hz.1 hh.1).1)]
        rw [hd]
        refine .inr ⟨by simp, ?_⟩
        rw [call_at (E := E) (f := 53) (fn := Tryz.f53) rfl Tryz.func53 rfl (Nat.le_of_ble_eq_true rfl)]
        simp -implicitDefEqProofs only [simA, exL, nlC, newCl, args0, oneOrTup, Nat.reduceAdd, Nat.reduceLT, Nat.reduceEqDiff, Nat.reduceLeDiff, Nat.reduceMul, leafsL, idfree, idfreeL, loadE, partE, fieldAddrE, nav, navL, frz, frzL, Int.reduceBEq, Int.reduceBNe, Int.reduceLT, Int.reduceLE, Int.reduceAdd, Int.reduceSub, Int.reduceMul, Int.reduceNeg, vInt, put, putL, setParts, loopB, loopsIn, Nat.reduceSub, Nat.reducePow, Nat.reduceDiv, Nat.reduceMod, fo_60_0, sz_3, agg_3, fo_60_1, sz_58, agg_58, fo_58_0, sz_55, agg_55, fo_58_1, fo_58_2, sz_56, agg_56, keep_53, E_masks, masks, rows_53, Tryz.f53, hli, hai, hti, hlr, har, hlp, hap, inc_nav0, inc_nav1, inc_nav2, n3, n4, k71, b1, b2, b3, bm, s.frz, Zen]
    · have hr' : right i.r.to = false := by simpa using hr
      rw [hr'] at k71
      have hd : doT l i = (l, 1) := by unfold doT; rw [if_pos h3, if_neg (fun hh => hr hh.2)]
      rw [hd]
      refine .inr ⟨by simp, ?_⟩
      rw [call_at (E := E) (f := 53) (fn := Tryz.f53) rfl Tryz.func53 rfl (Nat.le_of_ble_eq_true rfl)]
      simp -implicitDefEqProofs only [simA, exL, nlC, newCl, args0, oneOrTup, Nat.reduceAdd, Nat.reduceLT, Nat.reduceEqDiff, Nat.reduceLeDiff, Nat.reduceMul, leafsL, idfree, idfreeL, loadE, partE, fieldAddrE, nav, navL, frz, frzL, Int.reduceBEq, Int.reduceBNe, Int.reduceLT, Int.reduceLE, Int.reduceAdd, Int.reduceSub, Int.reduceMul, Int.reduceNeg, vInt, put, putL, setParts, loopB, loopsIn, Nat.reduceSub, Nat.reducePow, Nat.reduceDiv, Nat.reduceMod, fo_60_0, sz_3, agg_3, fo_60_1, sz_58, agg_58, fo_58_0, sz_55, agg_55, fo_58_1, fo_58_2, sz_56, agg_56, keep_53, E_masks, masks, rows_53, Tryz.f53, hli, hai, hti, hlr, har, hlp, hap, inc_nav0, inc_nav1, inc_nav2, n3, n4, k71, b1, b2, b3, s.frz, Zen]
  · have b3 : (i.kind == 3) = false := by simp [h3]
    by_cases hk : i.kind = 1 ∨ i.kind = 2
    · by_cases hr : rightR i.r = true
      · rw [hr] at k72
        by_cases hh : has l i.r.to = true
        · have hf : findT l i.r.to = ((pos l i.r.to : Nat) : Int) := by simp [findT, hh]
          have hge : (0 : Int) ≤ ((pos l i.r.to : Nat) : Int) := by omega
          rw [hf] at k60
          by_cases h1 : i.kind = 1
          · have b1 : (i.kind == 1) = true := by simp [h1]
            have hd : doT l i = (l, 9) := by unfold doT; rw [if_neg h3, if_pos ⟨hk, hr⟩, if_pos hh, if_pos h1]
            rw [hd]
            refine .inr ⟨by simp, ?_⟩
            rw [call_at (E := E) (f := 53) (fn := Tryz.f53) rfl Tryz.func53 rfl (Nat.le_of_ble_eq_true rfl)]
            simp -implicitDefEqProofs only [simA, exL, nlC, newCl, args0, oneOrTup, Nat.reduceAdd, Nat.reduceLT, Nat.reduceEqDiff, Nat.reduceLeDiff, Nat.reduceMul, leafsL, idfree, idfreeL, loadE, partE, fieldAddrE, nav, navL, frz, frzL, Int.reduceBEq, Int.reduceBNe, Int.reduceLT, Int.reduceLE, Int.reduceAdd, Int.reduceSub, Int.reduceMul, Int.reduceNeg, vInt, put, putL, setParts, loopB, loopsIn, Nat.reduceSub, Nat.reducePow, Nat.reduceDiv, Nat.reduceMod, fo_60_0, sz_3, agg_3, fo_60_1, sz_58, agg_58, fo_58_0, sz_55, agg_55, fo_58_1, fo_58_2, sz_56, agg_56, keep_53, E_masks, masks, rows_53, Tryz.f53, hli, hai, hti, hlr, har, hlp, hap, inc_nav0, inc_nav1, inc_nav2, n3, n4, k72, k60, hge, b1, b3, s.frz, Zen]
          · have h2 : i.kind = 2 := by rcases hk with hk | hk; exact (h1 hk).elim; exact hk
            have b1 : (i.kind == 1) = false := by simp [h1]
            have b2 : (i.kind == 2) = true := by simp [h2]
            have hd : doT l i = (l.set (pos l i.r.to) i.r, 0) := by unfold doT; rw [if_neg h3, if_pos ⟨hk, hr⟩, if_pos hh, if_neg h1]
            obtain ⟨b, e1⟩ := refput_there n (h ++ [.row 21 0 [i.av] ⟨true, 60⟩]) x l i.r hi.2 T.ok sH hbig T.sorted hr hh
            rw [hd]
            refine .inl ⟨rfl, b, ?_⟩
            rw [call_at (E := E) (f := 53) (fn := Tryz.f53) rfl Tryz.func53 rfl (Nat.le_of_ble_eq_true rfl)]
            simp -implicitDefEqProofs only [simA, exL, nlC, newCl, args0, oneOrTup, Nat.reduceAdd, Nat.reduceLT, Nat.reduceEqDiff, Nat.reduceLeDiff, Nat.reduceMul, leafsL, idfree, idfreeL, loadE, partE, fieldAddrE, nav, navL, frz, frzL, Int.reduceBEq, Int.reduceBNe, Int.reduceLT, Int.reduceLE, Int.reduceAdd, Int.reduceSub, Int.reduceMul, Int.reduceNeg, vInt, put, putL, setParts, loopB, loopsIn, Nat.reduceSub, Nat.reducePow, Nat.reduceDiv, Nat.reduceMod, fo_60_0, sz_3, agg_3, fo_60_1, sz_58, agg_58, fo_58_0, sz_55, agg_55, fo_58_1, fo_58_2, sz_56, agg_56, keep_53, E_masks, masks, rows_53, Tryz.f53, hli, hai, hti, hlr, har, hlp, hap, inc_nav0, inc_nav1, inc_nav2, n3, n4, k72, k60, hge, b1, b2, b3, e1, hidf, Zen]
        · have hh' : has l i.r.to = false := by simpa using hh
          have hf : findT l i.r.to = -1 := by simp [findT, hh']
          rw [hf] at k60
          by_cases h2 : i.kind = 2
          · have b1 : (i.kind == 1) = false := by simp [h2]
            have b2 : (i.kind == 2) = true := by simp [h2]
            have hd : doT l i = (l, 8) := by unfold doT; rw [if_neg h3, if_pos ⟨hk, hr⟩, if_neg hh, if_pos h2]
            rw [hd]
            refine .inr ⟨by simp, ?_⟩
            rw [call_at (E := E) (f := 53) (fn := Tryz.f53) rfl Tryz.func53 rfl (Nat.le_of_ble_eq_true rfl)]
            simp -implicitDefEqProofs only [simA, exL, nlC, newCl, args0, oneOrTup, Nat.reduceAdd, Nat.reduceLT, Nat.reduceEqDiff, Nat.reduceLeDiff, Nat.reduceMul, leafsL, idfree, idfreeL, loadE, partE, fieldAddrE, nav, navL, frz, frzL, Int.reduceBEq, Int.reduceBNe, Int.reduceLT, Int.reduceLE, Int.reduceAdd, Int.reduceSub, Int.reduceMul, Int.reduceNeg, vInt, put, putL, setParts, loopB, loopsIn, Nat.reduceSub, Nat.reducePow, Nat.reduceDiv, Nat.reduceMod, fo_60_0, sz_3, agg_3, fo_60_1, sz_58, agg_58, fo_58_0, sz_55, agg_55, fo_58_1, fo_58_2, sz_56, agg_56, keep_53, E_masks, masks, rows_53, Tryz.f53, hli, hai, hti, hlr, har, hlp, hap, inc_nav0, inc_nav1, inc_nav2, n3, n4, k72, k60, b1, b2, b3, s.frz, Zen]
          · have h1 : i.kind = 1 := by rcases hk with hk | hk; exact hk; exact (h2 hk).elim
            have b1 : (i.kind == 1) = true := by simp [h1]
            have b2 : (i.kind == 2) = false := by simp [h1]
            by_cases hf3 : 300 ≤ l.length
            · have hd : doT l i = (l, 7) := by unfold doT; rw [if_neg h3, if_pos ⟨hk, hr⟩, if_neg hh, if_neg h2, if_pos hf3]
              have e1 := refput_full n (h ++ [.row 21 0 [i.av] ⟨true, 60⟩]) x l i.r hi.2 T.ok sH hbig T.sorted hr hh' hf3
              rw [hd]
              refine .inr ⟨by simp, ?_⟩
              rw [call_at (E := E) (f := 53) (fn := Tryz.f53) rfl Tryz.func53 rfl (Nat.le_of_ble_eq_true rfl)]
              simp -implicitDefEqProofs only [simA, exL, nlC, newCl, args0, oneOrTup, Nat.reduceAdd, Nat.reduceLT, Nat.reduceEqDiff, Nat.reduceLeDiff, Nat.reduceMul, leafsL, idfree, idfreeL, loadE, partE, fieldAddrE, nav, navL, frz, frzL, Int.reduceBEq, Int.reduceBNe, Int.reduceLT, Int.reduceLE, Int.reduceAdd, Int.reduceSub, Int.reduceMul, Int.reduceNeg, vInt, put, putL, setParts, loopB, loopsIn, Nat.reduceSub, Nat.reducePow, Nat.reduceDiv, Nat.reduceMod, fo_60_0, sz_3, agg_3, fo_60_1, sz_58, agg_58, fo_58_0, sz_55, agg_55, fo_58_1, fo_58_2, sz_56, agg_56, keep_53, E_masks, masks, rows_53, Tryz.f53, hli, hai, hti, hlr, har, hlp, hap, inc_nav0, inc_nav1, inc_nav2, n3, n4, k72, k60, b1, b2, b3, e1, s.frz, Zen]
            · have hd : doT l i = (insAt l (pos l i.r.to) i.r, 0) := by unfold doT; rw [if_neg h3, if_pos ⟨hk, hr⟩, if_neg hh, if_neg h2, if_neg hf3]
              obtain ⟨b, e1⟩ := refput_new n (h ++ [.row 21 0 [i.av] ⟨true, 60⟩]) x l i.r hi.2 T.ok sH (by omega) T.sorted hr hh'
              rw [hd]
              refine .inl ⟨rfl, b, ?_⟩
              rw [call_at (E := E) (f := 53) (fn := Tryz.f53) rfl Tryz.func53 rfl (Nat.le_of_ble_eq_true rfl)]
              simp -implicitDefEqProofs only [simA, exL, nlC, newCl, args0, oneOrTup, Nat.reduceAdd, Nat.reduceLT, Nat.reduceEqDiff, Nat.reduceLeDiff, Nat.reduceMul, leafsL, idfree, idfreeL, loadE, partE, fieldAddrE, nav, navL, frz, frzL, Int.reduceBEq, Int.reduceBNe, Int.reduceLT, Int.reduceLE, Int.reduceAdd, Int.reduceSub, Int.reduceMul, Int.reduceNeg, vInt, put, putL, setParts, loopB, loopsIn, Nat.reduceSub, Nat.reducePow, Nat.reduceDiv, Nat.reduceMod, fo_60_0, sz_3, agg_3, fo_60_1, sz_58, agg_58, fo_58_0, sz_55, agg_55, fo_58_1, fo_58_2, sz_56, agg_56, keep_53, E_masks, masks, rows_53, Tryz.f53, hli, hai, hti, hlr, har, hlp, hap, inc_nav0, inc_nav1, inc_nav2, n3, n4, k72, k60, b1, b2, b3, e1, hidf, Zen]
      · have hr' : rightR i.r = false := by simpa using hr
        have hd : doT l i = (l, 1) := by unfold doT; rw [if_neg h3, if_neg (fun hh => hr hh.2)]
        rw [hr'] at k72
        rw [hd]
        refine .inr ⟨by simp, ?_⟩
        rw [call_at (E := E) (f := 53) (fn := Tryz.f53) rfl Tryz.func53 rfl (Nat.le_of_ble_eq_true rfl)]
        rcases hk with h1 | h2
        · have b1 : (i.kind == 1) = true := by simp [h1]
          simp -implicitDefEqProofs only [simA, exL, nlC, newCl, args0, oneOrTup, Nat.reduceAdd, Nat.reduceLT, Nat.reduceEqDiff, Nat.reduceLeDiff, Nat.reduceMul, leafsL, idfree, idfreeL, loadE, partE, fieldAddrE, nav, navL, frz, frzL, Int.reduceBEq, Int.reduceBNe, Int.reduceLT, Int.reduceLE, Int.reduceAdd, Int.reduceSub, Int.reduceMul, Int.reduceNeg, vInt, put, putL, setParts, loopB, loopsIn, Nat.reduceSub, Nat.reducePow, Nat.reduceDiv, Nat.reduceMod, fo_60_0, sz_3, agg_3, fo_60_1, sz_58, agg_58, fo_58_0, sz_55, agg_55, fo_58_1, fo_58_2, sz_56, agg_56, keep_53, E_masks, masks, rows_53, Tryz.f53, hli, hai, hti, hlr, har, hlp, hap, inc_nav0, inc_nav1, inc_nav2, n3, n4, k72, b1, b3, s.frz, Zen]
        · have b1 : (i.kind == 1) = false := by simp [h2]
          have b2 : (i.kind == 2) = true := by simp [h2]
          simp -implicitDefEqProofs only [simA, exL, nlC, newCl, args0, oneOrTup, Nat.reduceAdd, Nat.reduceLT, Nat.reduceEqDiff, Nat.reduceLeDiff, Nat.reduceMul, leafsL, idfree, idfreeL, loadE, partE, fieldAddrE, nav, navL, frz, frzL, Int.reduceBEq, Int.reduceBNe, Int.reduceLT, Int.reduceLE, Int.reduceAdd, Int.reduceSub, Int.reduceMul, Int.reduceNeg, vInt, put, putL, setParts, loopB, loopsIn, Nat.reduceSub, Nat.reducePow, Nat.reduceDiv, Nat.reduceMod, fo_60_0, sz_3, agg_3, fo_60_1, sz_58, agg_58, fo_58_0, sz_55, agg_55, fo_58_1, fo_58_2, sz_56, agg_56, keep_53, E_masks, masks, rows_53, Tryz.f53, hli, hai, hti, hlr, har, hlp, hap, inc_nav0, inc_nav1, inc_nav2, n3, n4, k72, b1, b2, b3, s.frz, Zen]
    · have b1 : (i.kind == 1) = false := by simp; exact fun h => hk (.inl h)
      have b2 : (i.kind == 2) = false := by simp; exact fun h => hk (.inr h)
      have hd : doT l i = (l, 1) := by unfold doT; rw [if_neg h3, if_neg (fun hh => hk hh.1)]
      rw [hd]
      refine .inr ⟨by simp, ?_⟩
      rw [call_at (E := E) (f := 53) (fn := Tryz.f53) rfl Tryz.func53 rfl (Nat.le_of_ble_eq_true rfl)]
      simp -implicitDefEqProofs only [simA, exL, nlC, newCl, args0, oneOrTup, Nat.reduceAdd, Nat.reduceLT, Nat.reduceEqDiff, Nat.reduceLeDiff, Nat.reduceMul, leafsL, idfree, idfreeL, loadE, partE, fieldAddrE, nav, navL, frz, frzL, Int.reduceBEq, Int.reduceBNe, Int.reduceLT, Int.reduceLE, Int.reduceAdd, Int.reduceSub, Int.reduceMul, Int.reduceNeg, vInt, put, putL, setParts, loopB, loopsIn, Nat.reduceSub, Nat.reducePow, Nat.reduceDiv, Nat.reduceMod, fo_60_0, sz_3, agg_3, fo_60_1, sz_58, agg_58, fo_58_0, sz_55, agg_55, fo_58_1, fo_58_2, sz_56, agg_56, keep_53, E_masks, masks, rows_53, Tryz.f53, hli, hai, hti, hlr, har, hlp, hap, inc_nav0, inc_nav1, inc_nav2, n3, n4, b1, b2, b3, s.frz, Zen]

theorem loop19 (n n0 : Nat) (h : Heap) (xs : AV) (all : List Inc) (sv : SlV h 21 xs (all.map Inc.av)) (hok : ∀ i ∈ all, i.ok) (hbig : all.length < 490) : ∀ (rest pre : List Inc) (j : Nat) (fr : FR) (x : AV) (l : List Route), pre ++ rest = all → rest.length < j → TabL l → RV h x l →
    keepF (masks 19) fr = [(0, x), (1, xs), (7, .v (.int .i64 (pre.length : Nat)))] →
    ∃ fr', ((foldT l rest pre.length).2.2 = 0 ∧ (foldT l rest pre.length).2.1 = all.length ∧ ∃ y, loopN (exec E (call E (n + 504)) (n + 504) 19 33 n0 (loopB Tryz.f19 0)) (masks 19) j ⟨fr, h, [], []⟩ = some (.exit 0, ⟨fr', h, [], []⟩) ∧ AM.get fr' 0 = some y ∧ AM.get fr' 1 = some xs ∧ RV h y (foldT l rest pre.length).1) ∨
      ((foldT l rest pre.length).2.2 ≠ 0 ∧ loopN (exec E (call E (n + 504)) (n + 504) 19 33 n0 (loopB Tryz.f19 0)) (masks 19) j ⟨fr, h, [], []⟩ = some (.ret, ⟨fr', h, [], []⟩) ∧ AM.get fr' 4 = some nilS ∧ AM.get fr' 5 = some (.v (.int .i64 ((foldT l rest pre.length).2.1 : Nat))) ∧ AM.get fr' 6 = some (.v (.int .i64 (foldT l rest pre.length).2.2)))
  | [], pre, j, fr, x, l, h1, hj, T, s, hk => by
    obtain ⟨j, rfl⟩ : ∃ i, j = i + 1 := ⟨j - 1, by simp at hj; omega⟩
    have hi : ¬ ((pre.length : Int) < all.length) := by rw [← h1]; simp
    have hlx : sliceLen xs = some all.length := by have := sv.len; simpa using this
    have he : ∃ fr', exec E (call E (n + 504)) (n + 504) 19 33 n0 (loopB Tryz.f19 0) ⟨[(0, x), (1, xs), (7, .v (.int .i64 (pre.length : Nat)))], h, [], []⟩ = some (.exit 0, ⟨fr', h, [], []⟩) ∧ AM.get fr' 0 = some x ∧ AM.get fr' 1 = some xs := by
      rw [exec_code]
      simp -implicitDefEqProofs only [simA, exL, nlC, newCl, args0, oneOrTup, Nat.reduceAdd, Nat.reduceLT, Nat.reduceEqDiff, Nat.reduceLeDiff, Nat.reduceMul, leafsL, idfree, idfreeL, loadE, partE, fieldAddrE, nav, navL, frz, frzL, Int.reduceBEq, Int.reduceBNe, Int.reduceLT, Int.reduceLE, Int.reduceAdd, Int.reduceSub, Int.reduceMul, Int.reduceNeg, vInt, put, putL, setParts, loopB, loopsIn, Nat.reduceSub, Nat.reducePow, Nat.reduceDiv, Nat.reduceMod, ln_22, und_22, sz_60, agg_60, keep_19, E_masks, masks, rows_19, Tryz.f19, hlx, hi]
      exact ⟨_, rfl, rfl, rfl⟩
    obtain ⟨fr', e1, e2, e3⟩ := he
    exact ⟨fr', .inl ⟨rfl, by simp [foldT, ← h1], x, loopN_outK hk e1, e2, e3, s⟩⟩
  | i :: rest, pre, j, fr, x, l, h1, hj, T, s, hk => by
    obtain ⟨j, rfl⟩ : ∃ i, j = i + 1 := ⟨j - 1, by simp at hj; omega⟩
    have hi : ((pre.length : Int) < all.length) := by rw [← h1]; simp; omega
    have hlx : sliceLen xs = some all.length := by have := sv.len; simpa using this
    have hio : i.ok := hok i (by rw [← h1]; simp)
    obtain ⟨a, ha1, ha2⟩ := sv.at (t := 22) (e := 60) und_22 sz_60 (j := pre.length) (y := i.av) (by rw [← h1]; simp)
    have hli : AM.leafs i.av = 21 := Inc.leafs hio
    have hai : isAggA i.av = true := rfl
    have w1 := wrapN1 (n := pre.length) (by rw [← h1] at hbig; simp at hbig; omega)
    rcases refdo n h x l i hio T s with ⟨hz, b, e1⟩ | ⟨hz, e1⟩
    · have hfold : foldT l (i :: rest) pre.length = foldT (doT l i).1 rest (pre ++ [i]).length := by
        rw [foldT, if_pos hz]
        simp
      have he : ∃ fr1, exec E (call E (n + 504)) (n + 504) 19 33 n0 (loopB Tryz.f19 0) ⟨[(0, x), (1, xs), (7, .v (.int .i64 (pre.length : Nat)))], h, [], []⟩ = some (.normal, ⟨fr1, h, [], []⟩) ∧
          keepF (masks 19) fr1 = [(0, .lit 20 b ((doT l i).1.map Route.av)), (1, xs), (7, .v (.int .i64 ((pre.length + 1 : Nat) : Int)))] := by
        rw [exec_code]
        simp -implicitDefEqProofs only [simA, exL, nlC, newCl, args0, oneOrTup, Nat.reduceAdd, Nat.reduceLT, Nat.reduceEqDiff, Nat.reduceLeDiff, Nat.reduceMul, leafsL, idfree, idfreeL, loadE, partE, fieldAddrE, nav, navL, frz, frzL, Int.reduceBEq, Int.reduceBNe, Int.reduceLT, Int.reduceLE, Int.reduceAdd, Int.reduceSub, Int.reduceMul, Int.reduceNeg, vInt, put, putL, setParts, loopB, loopsIn, Nat.reduceSub, Nat.reducePow, Nat.reduceDiv, Nat.reduceMod, ln_22, und_22, sz_60, agg_60, keep_19, E_masks, masks, rows_19, Tryz.f19, hi, hlx, ha1, ha2, hli, hai, e1, w1]
        exact ⟨_, rfl, rfl⟩
      obtain ⟨fr1, g1, g2⟩ := he
      obtain ⟨fr', hcase⟩ := loop19 n n0 h xs all sv hok hbig rest (pre ++ [i]) j fr1 _ (doT l i).1 (by rw [← h1]; simp) (by simp at hj; omega) (doT_tab T hio) (RV.lit h b _) (by rw [g2]; simp)
      rw [hfold, loopN_stepK hk g1]
      exact ⟨fr', hcase⟩
    · have hfold : foldT l (i :: rest) pre.length = (l, pre.length, (doT l i).2) := by rw [foldT, if_neg hz]
      have bz : ((doT l i).2 != 0) = true := by simpa using hz
      have he : ∃ fr1, exec E (call E (n + 504)) (n + 504) 19 33 n0 (loopB Tryz.f19 0) ⟨[(0, x), (1, xs), (7, .v (.int .i64 (pre.length : Nat)))], h, [], []⟩ = some (.ret, ⟨fr1, h, [], []⟩) ∧
          AM.get fr1 4 = some nilS ∧ AM.get fr1 5 = some (.v (.int .i64 (pre.length : Nat))) ∧ AM.get fr1 6 = some (.v (.int .i64 (doT l i).2)) := by
        rw [exec_code]
        simp -implicitDefEqProofs only [simA, exL, nlC, newCl, args0, oneOrTup, Nat.reduceAdd, Nat.reduceLT, Nat.reduceEqDiff, Nat.reduceLeDiff, Nat.reduceMul, leafsL, idfree, idfreeL, loadE, partE, fieldAddrE, nav, navL, frz, frzL, Int.reduceBEq, Int.reduceBNe, Int.reduceLT, Int.reduceLE, Int.reduceAdd, Int.reduceSub, Int.reduceMul, Int.reduceNeg, vInt, put, putL, setParts, loopB, loopsIn, Nat.reduceSub, Nat.reducePow, Nat.reduceDiv, Nat.reduceMod, ln_22, und_22, sz_60, agg_60, keep_19, E_masks, masks, rows_19, Tryz.f19, hi, hlx, ha1, ha2, hli, hai, e1, bz]
        exact ⟨_, rfl, rfl, rfl, rfl⟩
      obtain ⟨fr1, g1, g2, g3, g4⟩ := he
      rw [hfold]
      exact ⟨fr1, .inr ⟨hz, loopN_retK hk g1, g2, g3, g4⟩⟩

theorem c19 (n : Nat) (h : Heap) (x : AV) (l : List Route) (xs : AV) (all : List Inc) (T : TabL l) (s : RV h x l) (sv : SlV h 21 xs (all.map Inc.av)) (hok : ∀ i ∈ all, i.ok) (hbig : all.length < 490) :
    ((foldT l all 0).2.2 = 0 ∧ (foldT l all 0).2.1 = all.length ∧ ∃ y, call E (n + 505) 19 [x, xs] h = some (.tup [y, .v (.int .i64 (all.length : Nat)), .v (.int .i64 0)], h, ⟨[], [], true⟩) ∧ RV h y (foldT l all 0).1) ∨
    ((foldT l all 0).2.2 ≠ 0 ∧ call E (n + 505) 19 [x, xs] h = some (.tup [nilS, .v (.int .i64 ((foldT l all 0).2.1 : Nat)), .v (.int .i64 (foldT l all 0).2.2)], h, ⟨[], [], true⟩)) := by
  have hlx : sliceLen xs = some all.length := by have := sv.len; simpa using this
  obtain ⟨fr', ⟨z1, z2, y, g1, g2, g3, g4⟩ | ⟨z1, g1, g2, g3, g4⟩⟩ := loop19 n h.length h xs all sv hok hbig all [] (n + 504) [(0, x), (1, xs), (7, .v (.int .i64 0))] x l rfl (by omega) T s rfl
  · refine .inl ⟨z1, z2, y, ?_, g4⟩
    simp -implicitDefEqProofs only [simA, exL, nlC, newCl, args0, oneOrTup, Nat.reduceAdd, Nat.reduceLT, Nat.reduceEqDiff, Nat.reduceLeDiff, Nat.reduceMul, leafsL, idfree, idfreeL, loadE, partE, fieldAddrE, nav, navL, frz, frzL, Int.reduceBEq, Int.reduceBNe, Int.reduceLT, Int.reduceLE, Int.reduceAdd, Int.reduceSub, Int.reduceMul, Int.reduceNeg, vInt, put, putL, setParts, loopB, loopsIn, Nat.reduceSub, Nat.reducePow, Nat.reduceDiv, Nat.reduceMod, ln_22, und_22, sz_60, agg_60, keep_19, E_masks, masks, rows_19, Tryz.f19] at g1
    rw [call_at (E := E) (f := 19) (fn := Tryz.f19) rfl Tryz.func19 rfl (Nat.le_of_ble_eq_true rfl)]
    simp -implicitDefEqProofs only [simA, exL, nlC, newCl, args0, oneOrTup, Nat.reduceAdd, Nat.reduceLT, Nat.reduceEqDiff, Nat.reduceLeDiff, Nat.reduceMul, leafsL, idfree, idfreeL, loadE, partE, fieldAddrE, nav, navL, frz, frzL, Int.reduceBEq, Int.reduceBNe, Int.reduceLT, Int.reduceLE, Int.reduceAdd, Int.reduceSub, Int.reduceMul, Int.reduceNeg, vInt, put, putL, setParts, loopB, loopsIn, Nat.reduceSub, Nat.reducePow, Nat.reduceDiv, Nat.reduceMod, ln_22, und_22, sz_60, agg_60, keep_19, E_masks, masks, rows_19, Tryz.f19, hlx, g1, g2, g3, g4.frz, Zen]
  · refine .inr ⟨z1, ?_⟩
    simp -implicitDefEqProofs only [simA, exL, nlC, newCl, args0, oneOrTup, Nat.reduceAdd, Nat.reduceLT, Nat.reduceEqDiff, Nat.reduceLeDiff, Nat.reduceMul, leafsL, idfree, idfreeL, loadE, partE, fieldAddrE, nav, navL, frz, frzL, Int.reduceBEq, Int.reduceBNe, Int.reduceLT, Int.reduceLE, Int.reduceAdd, Int.reduceSub, Int.reduceMul, Int.reduceNeg, vInt, put, putL, setParts, loopB, loopsIn, Nat.reduceSub, Nat.reducePow, Nat.reduceDiv, Nat.reduceMod, ln_22, und_22, sz_60, agg_60, keep_19, E_masks, masks, rows_19, Tryz.f19] at g1
    rw [call_at (E := E) (f := 19) (fn := Tryz.f19) rfl Tryz.func19 rfl (Nat.le_of_ble_eq_true rfl)]
    simp -implicitDefEqProofs only [simA, exL, nlC, newCl, args0, oneOrTup, Nat.reduceAdd, Nat.reduceLT, Nat.reduceEqDiff, Nat.reduceLeDiff, Nat.reduceMul, leafsL, idfree, idfreeL, loadE, partE, fieldAddrE, nav, navL, frz, frzL, Int.reduceBEq, Int.reduceBNe, Int.reduceLT, Int.reduceLE, Int.reduceAdd, Int.reduceSub, Int.reduceMul, Int.reduceNeg, vInt, put, putL, setParts, loopB, loopsIn, Nat.reduceSub, Nat.reducePow, Nat.reduceDiv, Nat.reduceMod, ln_22, und_22, sz_60, agg_60, keep_19, E_masks, masks, rows_19, Tryz.f19, hlx, g1, g2, g3, g4]

end Go.Proofs.YtobdjegooonklaaGreat

set_option linter.unusedSimpArgs false
set_option linter.unusedVariables false
set_option maxRecDepth 100000
set_option maxHeartbeats 1000000
namespace Go.Proofs.YtobdjegooonklaaGreat
open Go Go.AM

theorem loop20 (n n0 : Nat) (h : Heap) (x y : AV) (a b : List Route) (sx : RV h x a) (sy : RV h y b) (ha : ∀ i ∈ a, i.ok) (hb : ∀ i ∈ b, i.ok) (hl : a.length = b.length) (hbig : a.length < 490) : ∀ (ra pa rb pb : List Route) (j : Nat) (fr : FR), pa ++ ra = a → pb ++ rb = b → pa.length = pb.length → ra.length < j → keepF (masks 20) fr = [(0, x), (1, y), (5, .v (.int .i64 (pa.length : Nat)))] →
    ∃ fr', (loopN (exec E (call E (n + 499)) (n + 499) 20 26 n0 (loopB Tryz.f20 0)) (masks 20) j ⟨fr, h, [], []⟩ = some (.exit 0, ⟨fr', h, [], []⟩) ∧ ra = rb) ∨
      (loopN (exec E (call E (n + 499)) (n + 499) 20 26 n0 (loopB Tryz.f20 0)) (masks 20) j ⟨fr, h, [], []⟩ = some (.ret, ⟨fr', h, [], []⟩) ∧ AM.get fr' 4 = some (.v (.bool false)) ∧ ra ≠ rb)
  | [], pa, rb, pb, j, fr, h1, h2, h3, hj, hk => by
    obtain ⟨j, rfl⟩ : ∃ i, j = i + 1 := ⟨j - 1, by simp at hj; omega⟩
    have hlen : sliceLen x = some a.length := sx.len
    have hi : ¬ ((pa.length : Int) < a.length) := by rw [← h1]; simp
    have hrb : rb = [] := by
      have : rb.length = 0 := by rw [← h1, ← h2] at hl; simp at hl; omega
      exact List.eq_nil_of_length_eq_zero this
    have he : ∃ fr', exec E (call E (n + 499)) (n + 499) 20 26 n0 (loopB Tryz.f20 0) ⟨keepF (masks 20) fr, h, [], []⟩ = some (.exit 0, ⟨fr', h, [], []⟩) := by
      rw [hk, exec_code]
      simp -implicitDefEqProofs only [simA, exL, nlC, newCl, args0, oneOrTup, Nat.reduceAdd, Nat.reduceLT, Nat.reduceEqDiff, Nat.reduceLeDiff, Nat.reduceMul, leafsL, idfree, idfreeL, loadE, partE, fieldAddrE, nav, navL, frz, frzL, Int.reduceBEq, Int.reduceBNe, Int.reduceLT, Int.reduceLE, Int.reduceAdd, Int.reduceSub, Int.reduceMul, Int.reduceNeg, vInt, put, putL, setParts, loopB, loopsIn, Nat.reduceSub, Nat.reducePow, Nat.reduceDiv, Nat.reduceMod, ln_36, prs_20_6, und_36, sz_58, agg_58, keep_20, E_masks, masks, rows_20, Tryz.f20, hlen, hi]
      exact ⟨_, rfl⟩
    obtain ⟨fr', he⟩ := he
    exact ⟨fr', .inl ⟨loopN_out he, hrb.symm⟩⟩
  | i :: ra, pa, rb, pb, j, fr, h1, h2, h3, hj, hk => by
    obtain ⟨j, rfl⟩ : ∃ i, j = i + 1 := ⟨j - 1, by simp at hj; omega⟩
    have hlen : sliceLen x = some a.length := sx.len
    have hi : ((pa.length : Int) < a.length) := by rw [← h1]; simp; omega
    cases rb with
    | nil => rw [← h1, ← h2] at hl; simp at hl; omega
    | cons k rb =>
      have hi0 : i.ok := ha i (by rw [← h1]; simp)
      have hk0 : k.ok := hb k (by rw [← h2]; simp)
      obtain ⟨q1, qa1, qa2⟩ := sx.at (j := pa.length) (r := i) (by rw [← h1]; simp)
      obtain ⟨q2, qb1, qb2⟩ := sy.at (j := pa.length) (r := k) (by rw [h3, ← h2]; simp)
      have hil : AM.leafs i.av = 20 := Route.leafs hi0
      have hia : isAggA i.av = true := rfl
      have hkl : AM.leafs k.av = 20 := Route.leafs hk0
      have hka : isAggA k.av = true := rfl
      have hne := fun ox oy => ne58 (ox := ox) (oy := oy) hi0 hk0
      have w1 := wrapN1 (n := pa.length) (by rw [← h1] at hbig; simp at hbig; omega)
      by_cases hik : i = k
      · have hd : decide (i = k) = true := decide_eq_true hik
        have he : ∃ fr', exec E (call E (n + 499)) (n + 499) 20 26 n0 (loopB Tryz.f20 0) ⟨keepF (masks 20) fr, h, [], []⟩ = some (.normal, ⟨fr', h, [], []⟩) ∧ keepF (masks 20) fr' = [(0, x), (1, y), (5, .v (.int .i64 ((pa.length + 1 : Nat) : Int)))] := by
          rw [hk, exec_code]
          simp -implicitDefEqProofs only [simA, exL, nlC, newCl, args0, oneOrTup, Nat.reduceAdd, Nat.reduceLT, Nat.reduceEqDiff, Nat.reduceLeDiff, Nat.reduceMul, leafsL, idfree, idfreeL, loadE, partE, fieldAddrE, nav, navL, frz, frzL, Int.reduceBEq, Int.reduceBNe, Int.reduceLT, Int.reduceLE, Int.reduceAdd, Int.reduceSub, Int.reduceMul, Int.reduceNeg, vInt, put, putL, setParts, loopB, loopsIn, Nat.reduceSub, Nat.reducePow, Nat.reduceDiv, Nat.reduceMod, ln_36, prs_20_6, und_36, sz_58, agg_58, keep_20, E_masks, masks, rows_20, Tryz.f20, hlen, hi, qa1, qa2, qb1, qb2, hil, hia, hkl, hka, hne, hd, w1, pairsOK]
          exact ⟨_, rfl, rfl⟩
        obtain ⟨fr1, he, hk1⟩ := he
        obtain ⟨fr', g⟩ := loop20 n n0 h x y a b sx sy ha hb hl hbig ra (pa ++ [i]) rb (pb ++ [k]) j fr1 (by rw [← h1]; simp) (by rw [← h2]; simp) (by simp [h3]) (by simp at hj; omega) (by rw [hk1]; simp)
        refine ⟨fr', ?_⟩
        rw [loopN_step he]
        rcases g with ⟨g1, g2⟩ | ⟨g1, g2, g3⟩
        · exact .inl ⟨g1, by rw [hik, g2]⟩
        · exact .inr ⟨g1, g2, fun hh => g3 (List.cons.inj hh).2⟩
      · have hd : decide (i = k) = false := decide_eq_false hik
        have he : ∃ fr', exec E (call E (n + 499)) (n + 499) 20 26 n0 (loopB Tryz.f20 0) ⟨keepF (masks 20) fr, h, [], []⟩ = some (.ret, ⟨fr', h, [], []⟩) ∧ AM.get fr' 4 = some (.v (.bool false)) := by
          rw [hk, exec_code]
          simp -implicitDefEqProofs only [simA, exL, nlC, newCl, args0, oneOrTup, Nat.reduceAdd, Nat.reduceLT, Nat.reduceEqDiff, Nat.reduceLeDiff, Nat.reduceMul, leafsL, idfree, idfreeL, loadE, partE, fieldAddrE, nav, navL, frz, frzL, Int.reduceBEq, Int.reduceBNe, Int.reduceLT, Int.reduceLE, Int.reduceAdd, Int.reduceSub, Int.reduceMul, Int.reduceNeg, vInt, put, putL, setParts, loopB, loopsIn, Nat.reduceSub, Nat.reducePow, Nat.reduceDiv, Nat.reduceMod, ln_36, prs_20_6, und_36, sz_58, agg_58, keep_20, E_masks, masks, rows_20, Tryz.f20, hlen, hi, qa1, qa2, qb1, qb2, hil, hia, hkl, hka, hne, hd, w1, pairsOK]
          exact ⟨_, rfl, rfl⟩
        obtain ⟨fr', he, hg⟩ := he
        exact ⟨fr', .inr ⟨loopN_ret he, hg, fun hh => hik (List.cons.inj hh).1⟩⟩

theorem c20 (n : Nat) (h : Heap) (x y : AV) (a b : List Route) (sx : RV h x a) (sy : RV h y b) (ha : ∀ i ∈ a, i.ok) (hb : ∀ i ∈ b, i.ok) (hbig : a.length < 490) : call E (n + 500) 20 [x, y] h = some (.v (.bool (decide (a = b))), h, ⟨[], [], true⟩) := by
  have hlx : sliceLen x = some a.length := sx.len
  have hly : sliceLen y = some b.length := sy.len
  by_cases hl : a.length = b.length
  · have hn : ((a.length : Int) != (b.length : Int)) = false := by simp; omega
    obtain ⟨fr', ⟨g1, g2⟩ | ⟨g1, g2, g3⟩⟩ := loop20 n h.length h x y a b sx sy ha hb hl hbig a [] b [] (n + 499) [(0, x), (1, y), (5, .v (.int .i64 0))] rfl rfl rfl (by omega) rfl
    · simp -implicitDefEqProofs only [simA, exL, nlC, newCl, args0, oneOrTup, Nat.reduceAdd, Nat.reduceLT, Nat.reduceEqDiff, Nat.reduceLeDiff, Nat.reduceMul, leafsL, idfree, idfreeL, loadE, partE, fieldAddrE, nav, navL, frz, frzL, Int.reduceBEq, Int.reduceBNe, Int.reduceLT, Int.reduceLE, Int.reduceAdd, Int.reduceSub, Int.reduceMul, Int.reduceNeg, vInt, put, putL, setParts, loopB, loopsIn, Nat.reduceSub, Nat.reducePow, Nat.reduceDiv, Nat.reduceMod, ln_36, prs_20_6, und_36, sz_58, agg_58, keep_20, E_masks, masks, rows_20, Tryz.f20] at g1
      rw [call_at (E := E) (f := 20) (fn := Tryz.f20) rfl Tryz.func20 rfl (Nat.le_of_ble_eq_true rfl)]
      simp -implicitDefEqProofs only [simA, exL, nlC, newCl, args0, oneOrTup, Nat.reduceAdd, Nat.reduceLT, Nat.reduceEqDiff, Nat.reduceLeDiff, Nat.reduceMul, leafsL, idfree, idfreeL, loadE, partE, fieldAddrE, nav, navL, frz, frzL, Int.reduceBEq, Int.reduceBNe, Int.reduceLT, Int.reduceLE, Int.reduceAdd, Int.reduceSub, Int.reduceMul, Int.reduceNeg, vInt, put, putL, setParts, loopB, loopsIn, Nat.reduceSub, Nat.reducePow, Nat.reduceDiv, Nat.reduceMod, ln_36, prs_20_6, und_36, sz_58, agg_58, keep_20, E_masks, masks, rows_20, Tryz.f20, hlx, hly, hn, g1]
      simp [g2]
    · simp -implicitDefEqProofs only [simA, exL, nlC, newCl, args0, oneOrTup, Nat.reduceAdd, Nat.reduceLT, Nat.reduceEqDiff, Nat.reduceLeDiff, Nat.reduceMul, leafsL, idfree, idfreeL, loadE, partE, fieldAddrE, nav, navL, frz, frzL, Int.reduceBEq, Int.reduceBNe, Int.reduceLT, Int.reduceLE, Int.reduceAdd, Int.reduceSub, Int.reduceMul, Int.reduceNeg, vInt, put, putL, setParts, loopB, loopsIn, Nat.reduceSub, Nat.reducePow, Nat.reduceDiv, Nat.reduceMod, ln_36, prs_20_6, und_36, sz_58, agg_58, keep_20, E_masks, masks, rows_20, Tryz.f20] at g1
      rw [call_at (E := E) (f := 20) (fn := Tryz.f20) rfl Tryz.func20 rfl (Nat.le_of_ble_eq_true rfl)]
      simp -implicitDefEqProofs only [simA, exL, nlC, newCl, args0, oneOrTup, Nat.reduceAdd, Nat.reduceLT, Nat.reduceEqDiff, Nat.reduceLeDiff, Nat.reduceMul, leafsL, idfree, idfreeL, loadE, partE, fieldAddrE, nav, navL, frz, frzL, Int.reduceBEq, Int.reduceBNe, Int.reduceLT, Int.reduceLE, Int.reduceAdd, Int.reduceSub, Int.reduceMul, Int.reduceNeg, vInt, put, putL, setParts, loopB, loopsIn, Nat.reduceSub, Nat.reducePow, Nat.reduceDiv, Nat.reduceMod, ln_36, prs_20_6, und_36, sz_58, agg_58, keep_20, E_masks, masks, rows_20, Tryz.f20, hlx, hly, hn, g1, g2]
      simp [g3]
  · have hn : ((a.length : Int) != (b.length : Int)) = true := by simp; omega
    have hab : ¬ a = b := fun e => hl (by rw [e])
    rw [call_at (E := E) (f := 20) (fn := Tryz.f20) rfl Tryz.func20 rfl (Nat.le_of_ble_eq_true rfl)]
    simp -implicitDefEqProofs only [simA, exL, nlC, newCl, args0, oneOrTup, Nat.reduceAdd, Nat.reduceLT, Nat.reduceEqDiff, Nat.reduceLeDiff, Nat.reduceMul, leafsL, idfree, idfreeL, loadE, partE, fieldAddrE, nav, navL, frz, frzL, Int.reduceBEq, Int.reduceBNe, Int.reduceLT, Int.reduceLE, Int.reduceAdd, Int.reduceSub, Int.reduceMul, Int.reduceNeg, vInt, put, putL, setParts, loopB, loopsIn, Nat.reduceSub, Nat.reducePow, Nat.reduceDiv, Nat.reduceMod, ln_36, prs_20_6, und_36, sz_58, agg_58, keep_20, E_masks, masks, rows_20, Tryz.f20, hlx, hly, hn]
    simp [hab]

theorem loop61 (n n0 : Nat) (h : Heap) (x y : AV) (a b : List Route) (sx : RV h x a) (sy : RV h y b) (ha : ∀ i ∈ a, i.ok) (hb : ∀ i ∈ b, i.ok) (hl : a.length = b.length) (hbig : a.length < 490) : ∀ (ra pa rb pb : List Route) (j : Nat) (fr : FR), pa ++ ra = a → pb ++ rb = b → pa.length = pb.length → ra.length < j → keepF (masks 61) fr = [(0, x), (1, y), (12, .v (.int .i64 (a.length : Nat))), (13, .v (.int .i64 (pa.length : Nat)))] →
    ∃ fr', (loopN (exec E (call E (n + 499)) (n + 499) 61 26 n0 (loopB Tryz.f61 0)) (masks 61) j ⟨fr, h, [], []⟩ = some (.exit 0, ⟨fr', h, [], []⟩) ∧ ra = rb) ∨
      (loopN (exec E (call E (n + 499)) (n + 499) 61 26 n0 (loopB Tryz.f61 0)) (masks 61) j ⟨fr, h, [], []⟩ = some (.ret, ⟨fr', h, [], []⟩) ∧ AM.get fr' 4 = some (.v (.bool false)) ∧ ra ≠ rb)
  | [], pa, rb, pb, j, fr, h1, h2, h3, hj, hk => by
    obtain ⟨j, rfl⟩ : ∃ i, j = i + 1 := ⟨j - 1, by simp at hj; omega⟩
    have hlen : sliceLen x = some a.length := sx.len
    have hi : ¬ ((pa.length : Int) < a.length) := by rw [← h1]; simp
    have hrb : rb = [] := by
      have : rb.length = 0 := by rw [← h1, ← h2] at hl; simp at hl; omega
      exact List.eq_nil_of_length_eq_zero this
    have he : ∃ fr', exec E (call E (n + 499)) (n + 499) 61 26 n0 (loopB Tryz.f61 0) ⟨keepF (masks 61) fr, h, [], []⟩ = some (.exit 0, ⟨fr', h, [], []⟩) := by
      rw [hk, exec_code]
      simp -implicitDefEqProofs only [simA, exL, nlC, newCl, args0, oneOrTup, Nat.reduceAdd, Nat.reduceLT, Nat.reduceEqDiff, Nat.reduceLeDiff, Nat.reduceMul, leafsL, idfree, idfreeL, loadE, partE, fieldAddrE, nav, navL, frz, frzL, Int.reduceBEq, Int.reduceBNe, Int.reduceLT, Int.reduceLE, Int.reduceAdd, Int.reduceSub, Int.reduceMul, Int.reduceNeg, vInt, put, putL, setParts, loopB, loopsIn, Nat.reduceSub, Nat.reducePow, Nat.reduceDiv, Nat.reduceMod, ln_36, prs_61_6, und_36, sz_58, agg_58, keep_61, E_masks, masks, rows_61, Tryz.f61, hlen, hi]
      exact ⟨_, rfl⟩
    obtain ⟨fr', he⟩ := he
    exact ⟨fr', .inl ⟨loopN_out he, hrb.symm⟩⟩
  | i :: ra, pa, rb, pb, j, fr, h1, h2, h3, hj, hk => by
    obtain ⟨j, rfl⟩ : ∃ i, j = i + 1 := ⟨j - 1, by simp at hj; omega⟩
    have hlen : sliceLen x = some a.length := sx.len
    have hi : ((pa.length : Int) < a.length) := by rw [← h1]; simp; omega
    cases rb with
    | nil => rw [← h1, ← h2] at hl; simp at hl; omega
    | cons k rb =>
      have hi0 : i.ok := ha i (by rw [← h1]; simp)
      have hk0 : k.ok := hb k (by rw [← h2]; simp)
      obtain ⟨q1, qa1, qa2⟩ := sx.at (j := pa.length) (r := i) (by rw [← h1]; simp)
      obtain ⟨q2, qb1, qb2⟩ := sy.at (j := pa.length) (r := k) (by rw [h3, ← h2]; simp)
      have hil : AM.leafs i.av = 20 := Route.leafs hi0
      have hia : isAggA i.av = true := rfl
      have hkl : AM.leafs k.av = 20 := Route.leafs hk0
      have hka : isAggA k.av = true := rfl
      have hne := fun ox oy => ne58 (ox := ox) (oy := oy) hi0 hk0
      have w1 := wrapN1 (n := pa.length) (by rw [← h1] at hbig; simp at hbig; omega)
      by_cases hik : i = k
      · have hd : decide (i = k) = true := decide_eq_true hik
        have he : ∃ fr', exec E (call E (n + 499)) (n + 499) 61 26 n0 (loopB Tryz.f61 0) ⟨keepF (masks 61) fr, h, [], []⟩ = some (.normal, ⟨fr', h, [], []⟩) ∧ keepF (masks 61) fr' = [(0, x), (1, y), (12, .v (.int .i64 (a.length : Nat))), (13, .v (.int .i64 ((pa.length + 1 : Nat) : Int)))] := by
          rw [hk, exec_code]
          simp -implicitDefEqProofs only [simA, exL, nlC, newCl, args0, oneOrTup, Nat.reduceAdd, Nat.reduceLT, Nat.reduceEqDiff, Nat.reduceLeDiff, Nat.reduceMul, leafsL, idfree, idfreeL, loadE, partE, fieldAddrE, nav, navL, frz, frzL, Int.reduceBEq, Int.reduceBNe, Int.reduceLT, Int.reduceLE, Int.reduceAdd, Int.reduceSub, Int.reduceMul, Int.reduceNeg, vInt, put, putL, setParts, loopB, loopsIn, Nat.reduceSub, Nat.reducePow, Nat.reduceDiv, Nat.reduceMod, ln_36, prs_61_6, und_36, sz_58, agg_58, keep_61, E_masks, masks, rows_61, Tryz.f61, hlen, hi, qa1, qa2, qb1, qb2, hil, hia, hkl, hka, hne, hd, w1, pairsOK]
          exact ⟨_, rfl, rfl⟩
        obtain ⟨fr1, he, hk1⟩ := he
        obtain ⟨fr', g⟩ := loop61 n n0 h x y a b sx sy ha hb hl hbig ra (pa ++ [i]) rb (pb ++ [k]) j fr1 (by rw [← h1]; simp) (by rw [← h2]; simp) (by simp [h3]) (by simp at hj; omega) (by rw [hk1]; simp)
        refine ⟨fr', ?_⟩
        rw [loopN_step he]
        rcases g with ⟨g1, g2⟩ | ⟨g1, g2, g3⟩
        · exact .inl ⟨g1, by rw [hik, g2]⟩
        · exact .inr ⟨g1, g2, fun hh => g3 (List.cons.inj hh).2⟩
      · have hd : decide (i = k) = false := decide_eq_false hik
        have he : ∃ fr', exec E (call E (n + 499)) (n + 499) 61 26 n0 (loopB Tryz.f61 0) ⟨keepF (masks 61) fr, h, [], []⟩ = some (.ret, ⟨fr', h, [], []⟩) ∧ AM.get fr' 4 = some (.v (.bool false)) := by
          rw [hk, exec_code]
          simp -implicitDefEqProofs only [simA, exL, nlC, newCl, args0, oneOrTup, Nat.reduceAdd, Nat.reduceLT, Nat.reduceEqDiff, Nat.reduceLeDiff, Nat.reduceMul, leafsL, idfree, idfreeL, loadE, partE, fieldAddrE, nav, navL, frz, frzL, Int.reduceBEq, Int.reduceBNe, Int.reduceLT, Int.reduceLE, Int.reduceAdd, Int.reduceSub, Int.reduceMul, Int.reduceNeg, vInt, put, putL, setParts, loopB, loopsIn, Nat.reduceSub, Nat.reducePow, Nat.reduceDiv, Nat.reduceMod, ln_36, prs_61_6, und_36, sz_58, agg_58, keep_61, E_masks, masks, rows_61, Tryz.f61, hlen, hi, qa1, qa2, qb1, qb2, hil, hia, hkl, hka, hne, hd, w1, pairsOK]
          exact ⟨_, rfl, rfl⟩
        obtain ⟨fr', he, hg⟩ := he
        exact ⟨fr', .inr ⟨loopN_ret he, hg, fun hh => hik (List.cons.inj hh).1⟩⟩

theorem c61 (n : Nat) (h : Heap) (x y : AV) (a b : List Route) (sx : RV h x a) (sy : RV h y b) (ha : ∀ i ∈ a, i.ok) (hb : ∀ i ∈ b, i.ok) (hbig : a.length < 490) : call E (n + 500) 61 [x, y] h = some (.v (.bool (decide (a = b))), h, ⟨[], [], true⟩) := by
  have hlx : sliceLen x = some a.length := sx.len
  have hly : sliceLen y = some b.length := sy.len
  by_cases hl : a.length = b.length
  · have hn : ((a.length : Int) != (b.length : Int)) = false := by simp; omega
    obtain ⟨fr', ⟨g1, g2⟩ | ⟨g1, g2, g3⟩⟩ := loop61 n h.length h x y a b sx sy ha hb hl hbig a [] b [] (n + 499) [(0, x), (1, y), (12, .v (.int .i64 (a.length : Nat))), (13, .v (.int .i64 0))] rfl rfl rfl (by omega) rfl
    · simp -implicitDefEqProofs only [simA, exL, nlC, newCl, args0, oneOrTup, Nat.reduceAdd, Nat.reduceLT, Nat.reduceEqDiff, Nat.reduceLeDiff, Nat.reduceMul, leafsL, idfree, idfreeL, loadE, partE, fieldAddrE, nav, navL, frz, frzL, Int.reduceBEq, Int.reduceBNe, Int.reduceLT, Int.reduceLE, Int.reduceAdd, Int.reduceSub, Int.reduceMul, Int.reduceNeg, vInt, put, putL, setParts, loopB, loopsIn, Nat.reduceSub, Nat.reducePow, Nat.reduceDiv, Nat.reduceMod, ln_36, prs_61_6, und_36, sz_58, agg_58, keep_61, E_masks, masks, rows_61, Tryz.f61] at g1
      rw [call_at (E := E) (f := 61) (fn := Tryz.f61) rfl Tryz.func61 rfl (Nat.le_of_ble_eq_true rfl)]
      simp -implicitDefEqProofs only [simA, exL, nlC, newCl, args0, oneOrTup, Nat.reduceAdd, Nat.reduceLT, Nat.reduceEqDiff, Nat.reduceLeDiff, Nat.reduceMul, leafsL, idfree, idfreeL, loadE, partE, fieldAddrE, nav, navL, frz, frzL, Int.reduceBEq, Int.reduceBNe, Int.reduceLT, Int.reduceLE, Int.reduceAdd, Int.reduceSub, Int.reduceMul, Int.reduceNeg, vInt, put, putL, setParts, loopB, loopsIn, Nat.reduceSub, Nat.reducePow, Nat.reduceDiv, Nat.reduceMod, ln_36, prs_61_6, und_36, sz_58, agg_58, keep_61, E_masks, masks, rows_61, Tryz.f61, hlx, hly, hn, g1]
      simp [g2]
    · simp -implicitDefEqProofs only [simA, exL, nlC, newCl, args0, oneOrTup, Nat.reduceAdd, Nat.reduceLT, Nat.reduceEqDiff, Nat.reduceLeDiff, Nat.reduceMul, leafsL, idfree, idfreeL, loadE, partE, fieldAddrE, nav, navL, frz, frzL, Int.reduceBEq, Int.reduceBNe, Int.reduceLT, Int.reduceLE, Int.reduceAdd, Int.reduceSub, Int.reduceMul, Int.reduceNeg, vInt, put, putL, setParts, loopB, loopsIn, Nat.reduceSub, Nat.reducePow, Nat.reduceDiv, Nat.reduceMod, ln_36, prs_61_6, und_36, sz_58, agg_58, keep_61, E_masks, masks, rows_61, Tryz.f61] at g1
      rw [call_at (E := E) (f := 61) (fn := Tryz.f61) rfl Tryz.func61 rfl (Nat.le_of_ble_eq_true rfl)]
      simp -implicitDefEqProofs only [simA, exL, nlC, newCl, args0, oneOrTup, Nat.reduceAdd, Nat.reduceLT, Nat.reduceEqDiff, Nat.reduceLeDiff, Nat.reduceMul, leafsL, idfree, idfreeL, loadE, partE, fieldAddrE, nav, navL, frz, frzL, Int.reduceBEq, Int.reduceBNe, Int.reduceLT, Int.reduceLE, Int.reduceAdd, Int.reduceSub, Int.reduceMul, Int.reduceNeg, vInt, put, putL, setParts, loopB, loopsIn, Nat.reduceSub, Nat.reducePow, Nat.reduceDiv, Nat.reduceMod, ln_36, prs_61_6, und_36, sz_58, agg_58, keep_61, E_masks, masks, rows_61, Tryz.f61, hlx, hly, hn, g1, g2]
      simp [g3]
  · have hn : ((a.length : Int) != (b.length : Int)) = true := by simp; omega
    have hab : ¬ a = b := fun e => hl (by rw [e])
    rw [call_at (E := E) (f := 61) (fn := Tryz.f61) rfl Tryz.func61 rfl (Nat.le_of_ble_eq_true rfl)]
    simp -implicitDefEqProofs only [simA, exL, nlC, newCl, args0, oneOrTup, Nat.reduceAdd, Nat.reduceLT, Nat.reduceEqDiff, Nat.reduceLeDiff, Nat.reduceMul, leafsL, idfree, idfreeL, loadE, partE, fieldAddrE, nav, navL, frz, frzL, Int.reduceBEq, Int.reduceBNe, Int.reduceLT, Int.reduceLE, Int.reduceAdd, Int.reduceSub, Int.reduceMul, Int.reduceNeg, vInt, put, putL, setParts, loopB, loopsIn, Nat.reduceSub, Nat.reducePow, Nat.reduceDiv, Nat.reduceMod, ln_36, prs_61_6, und_36, sz_58, agg_58, keep_61, E_masks, masks, rows_61, Tryz.f61, hlx, hly, hn]
    simp [hab]

end Go.Proofs.YtobdjegooonklaaGreat

set_option linter.unusedSimpArgs false
set_option linter.unusedVariables false
set_option maxRecDepth 100000
set_option maxHeartbeats 1000000
namespace Go.Proofs.YtobdjegooonklaaGreat
open Go Go.AM

theorem OutG.rv {B : Heap} {l : List Route} {x : AV} {H : Heap} (o : OutG B 20 58 (l.map Route.av) x H) : RV H x l := by
  rcases o with ⟨h0, rfl | rfl, rfl⟩ | ⟨hne, g, rfl, rfl⟩
  · exact .inl ⟨rfl, by simpa using h0⟩
  · exact .inr (.inl ⟨true, by rw [h0]⟩)
  · exact .inr (.inr ⟨B.length, g, l.map Route.av, _, by simp, by rw [end0]; rfl, by rw [List.take_of_length_le (by simp)]⟩)
theorem OutG.slv {B : Heap} {k : Nat} {ty : TypeId} {els : List AV} {x : AV} {H : Heap} (o : OutG B k ty els x H) : SlV H k x els := by
  rcases o with ⟨h0, rfl | rfl, rfl⟩ | ⟨hne, g, rfl, rfl⟩
  · exact .inl ⟨rfl, h0⟩
  · exact .inr (.inl ⟨true, by rw [h0]⟩)
  · exact .inr (.inr ⟨B.length, g, _, rfl, by rw [end0]; rfl⟩)
theorem OutG.grow {B : Heap} {k : Nat} {ty : TypeId} {els : List AV} {x : AV} {H : Heap} (o : OutG B k ty els x H) : B.length ≤ H.length := by
  rcases o with ⟨_, _, rfl⟩ | ⟨_, g, _, rfl⟩ <;> simp
theorem Cpy.rv {h h' : Heap} {l : List Route} {s' : AV} (c : Cpy h l s' h') : RV h' s' l := by
  rcases c with ⟨rfl, rfl, rfl⟩ | ⟨rfl, rfl, rfl⟩ | ⟨hne, rfl, rfl⟩
  · exact .inl ⟨rfl, rfl⟩
  · exact .inr (.inl ⟨true, rfl⟩)
  · exact .inr (.inr ⟨h.length, 0, l.map Route.av, _, rfl, by rw [end0]; rfl, by rw [List.take_of_length_le (by simp)]⟩)

/-- A list of routes, or of changes, given to a law. -/
def Arg (k : Nat) (x : AV) (ys : List AV) : Prop := (x = nilS ∧ ys = []) ∨ x = .lit k false ys
theorem Arg.src {k : Nat} {x : AV} {ys : List AV} (a : Arg k x ys) (h : Heap) : srS h k x = some ys := by
  rcases a with ⟨rfl, rfl⟩ | rfl
  · rfl
  · rw [Zet, if_pos rfl]
theorem Arg.slv {k : Nat} {x : AV} {ys : List AV} (a : Arg k x ys) (h : Heap) : SlV h k x ys := by
  rcases a with ⟨rfl, rfl⟩ | rfl
  · exact .inl ⟨rfl, rfl⟩
  · exact .inr (.inl ⟨_, rfl⟩)
theorem Arg.len {k : Nat} {x : AV} {ys : List AV} (a : Arg k x ys) : sliceLen x = some ys.length := by
  rcases a with ⟨rfl, rfl⟩ | rfl <;> rfl

theorem eqb_4 {ox oy : Operand} {a b : Bool} : binE E.P .eql 4 ox oy (.v (.bool a)) (.v (.bool b)) = some (.v (.bool (a == b))) := by cases a <;> cases b <;> rfl

/-- Changes copied. -/
theorem copy_inc {B : Heap} {L : List Inc} (h : L.length < 490) : ∃ y H c, apO B 60 21 56 (.lit 21 true []) (some (L.map Inc.av)) = some (y, H, none, c) ∧ OutG B 21 60 (L.map Inc.av) y H ∧ y ≠ nilS := by
  obtain ⟨y, H, c, a, _, o, hn⟩ := OutG.app0 (B := B) (k := 21) (ty := 60) (L.map Inc.av)
  exact ⟨y, H, c, by rw [Zer, if_pos (by simp [sliceLen]; omega)]; exact a, o, hn⟩
/-- Routes copied. -/
theorem copy_rt {B : Heap} {L : List Route} (h : L.length < 490) : ∃ y H c, apO B 58 20 48 (.lit 20 true []) (some (L.map Route.av)) = some (y, H, none, c) ∧ OutG B 20 58 (L.map Route.av) y H ∧ y ≠ nilS := by
  obtain ⟨y, H, c, a, _, o, hn⟩ := OutG.app0 (B := B) (k := 20) (ty := 58) (L.map Route.av)
  exact ⟨y, H, c, by rw [Zer, if_pos (by simp [sliceLen]; omega)]; exact a, o, hn⟩
theorem idfree_inc (i : Inc) : idfree i.av = true := by
  have := idfree_route i.r
  simp [Inc.av, idfree, idfreeL, this]
theorem idfree_incs (l : List Inc) : idfreeL (l.map Inc.av) = true := by
  apply idfreeL_of
  intro y hy
  obtain ⟨r, _, rfl⟩ := List.mem_map.1 hy
  exact idfree_inc r

theorem arg_routes {x : AV} (h : x = .v (.slice none 0 0) ∨ ∃ l, x = .lit 20 false l ∧ ∀ y ∈ l, ∃ r : Route, r.ok ∧ y = r.av) : ∃ R : List Route, (∀ r ∈ R, r.ok) ∧ Arg 20 x (R.map Route.av) := by
  rcases h with rfl | ⟨l, rfl, hl⟩
  · exact ⟨[], by simp, .inl ⟨rfl, rfl⟩⟩
  · obtain ⟨is, hok, rfl⟩ := all_of hl
    exact ⟨is, hok, .inr rfl⟩
theorem arg_incs {x : AV} (h : x = .v (.slice none 0 0) ∨ ∃ l, x = .lit 21 false l ∧ ∀ y ∈ l, ∃ i : Inc, i.ok ∧ y = i.av) : ∃ L : List Inc, (∀ i ∈ L, i.ok) ∧ Arg 21 x (L.map Inc.av) := by
  rcases h with rfl | ⟨l, rfl, hl⟩
  · exact ⟨[], by simp, .inl ⟨rfl, rfl⟩⟩
  · obtain ⟨is, hok, rfl⟩ := all_of hl
    exact ⟨is, hok, .inr rfl⟩

end Go.Proofs.YtobdjegooonklaaGreat
