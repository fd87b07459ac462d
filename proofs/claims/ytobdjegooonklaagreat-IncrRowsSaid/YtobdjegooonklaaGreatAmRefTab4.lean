/- The reference's tables: a route put, one dropped. Conditions: none. -/
import Derived.Test.YtobdjegooonklaaGreatAmRefTab
set_option linter.unusedSimpArgs false
set_option linter.unusedVariables false
set_option maxRecDepth 100000
set_option maxHeartbeats 1000000
namespace Go.Proofs.YtobdjegooonklaaGreat
open Go Go.AM

theorem insW_len (r : Route) : ∀ (b : Bool) (l : List Route), (insW r b l).1.length ≤ l.length + 1 ∧ (b = true → (insW r b l).1.length = l.length)
  | b, [] => by simp [insW]
  | b, a :: l => by
    obtain ⟨h1, h2⟩ := insW_len r b l
    simp only [insW]
    split
    · simp [insW_true]
      rename_i hc
      simp [hc.1]
    · simp only [List.length_cons]
      exact ⟨by omega, fun hb => by rw [h2 hb]⟩

theorem loop92 (n : Nat) (h : Heap) (x : AV) (all : List Route) (r : Route) (hr : r.ok) (hok : ∀ i ∈ all, i.ok) (s : RV h x all) (hbig : all.length < 490) : ∀ (rest pre : List Route) (b : Bool) (out : List Route) (t : AV) (H : Heap) (j : Nat) (fr : FR), pre ++ rest = all → rest.length < j → out.length + 2 * rest.length < 1000 → OutG (h ++ [.row 20 0 [r.av] ⟨true, 58⟩]) 20 58 (out.map Route.av) t H →
    keepF (masks 92) fr = [(0, x), (3, .ptr h.length 0 0 [] 0), (8, t), (9, .v (.bool b)), (10, .v (.int .i64 (pre.length : Nat)))] →
    ∃ fr' t' H', loopN (exec E (call E (n + 502)) (n + 502) 92 70 h.length (loopB Tryz.f92 0)) (masks 92) j ⟨fr, H, [], []⟩ = some (.exit 0, ⟨fr', H', [], []⟩) ∧ AM.get fr' 3 = some (.ptr h.length 0 0 [] 0) ∧ AM.get fr' 8 = some t' ∧ AM.get fr' 9 = some (.v (.bool (insW r b rest).2)) ∧
      OutG (h ++ [.row 20 0 [r.av] ⟨true, 58⟩]) 20 58 ((out ++ (insW r b rest).1).map Route.av) t' H'
  | [], pre, b, out, t, H, j, fr, hl, hj, hn, o, hk => by
    obtain ⟨j, rfl⟩ : ∃ i, j = i + 1 := ⟨j - 1, by simp at hj; omega⟩
    have hi : ¬ ((pre.length : Int) < all.length) := by rw [← hl]; simp
    have hlen := s.len
    have he : ∃ fr', exec E (call E (n + 502)) (n + 502) 92 70 h.length (loopB Tryz.f92 0) ⟨[(0, x), (3, .ptr h.length 0 0 [] 0), (8, t), (9, .v (.bool b)), (10, .v (.int .i64 (pre.length : Nat)))], H, [], []⟩ = some (.exit 0, ⟨fr', H, [], []⟩) ∧ AM.get fr' 3 = some (.ptr h.length 0 0 [] 0) ∧ AM.get fr' 8 = some t ∧ AM.get fr' 9 = some (.v (.bool b)) := by
      rw [exec_code]
      simp -implicitDefEqProofs only [simA, exL, nlC, newCl, args0, oneOrTup, Nat.reduceAdd, Nat.reduceLT, Nat.reduceEqDiff, Nat.reduceLeDiff, Nat.reduceMul, leafsL, idfree, idfreeL, loadE, partE, fieldAddrE, nav, navL, frz, frzL, Int.reduceBEq, Int.reduceBNe, Int.reduceLT, Int.reduceLE, Int.reduceAdd, Int.reduceSub, Int.reduceMul, Int.reduceNeg, vInt, put, putL, setParts, loopB, loopsIn, Nat.reduceSub, Nat.reducePow, Nat.reduceDiv, Nat.reduceMod, sz_58, agg_58, fo_58_0, sz_55, agg_55, bs_36_0_92, ap_36_36, src_36, und_36, ln_36, prs_92_15, bs_36_1_92, keep_92, E_masks, masks, rows_92, Tryz.f92, hi, hlen]
      exact ⟨_, rfl, rfl, rfl, rfl⟩
    obtain ⟨fr', he, g3, g8, g9⟩ := he
    exact ⟨fr', t, H, loopN_outK hk he, g3, g8, g9, by simpa [insW] using o⟩
  | a :: rest, pre, b, out, t, H, j, fr, hl, hj, hn, o, hk => by
    obtain ⟨j, rfl⟩ : ∃ i, j = i + 1 := ⟨j - 1, by simp at hj; omega⟩
    simp only [List.length_cons] at hj hn
    obtain ⟨fr1, t1, H1, he, hk1, o1⟩ := round92 n h x all r hr hok s hbig rest pre a hl b out t H (by omega) o
    obtain ⟨fr', t', H', g1, g3, g8, g9, g⟩ := loop92 n h x all r hr hok s hbig rest (pre ++ [a]) (b || decide (cmpP r.to a.to < 0)) _ t1 H1 j fr1 (by rw [← hl]; simp) (by omega) (by simp only [List.length_append]; split <;> simp <;> omega) o1 (by rw [hk1]; simp)
    refine ⟨fr', t', H', ?_, g3, g8, ?_, ?_⟩
    · rw [loopN_stepK hk he]
      exact g1
    · rw [g9]
      cases b with
      | true => simp [insW]
      | false =>
        by_cases hc : cmpP r.to a.to < 0
        · simp [insW, hc]
        · simp [insW, hc]
    · cases b with
      | true =>
        simpa [insW] using g
      | false =>
        by_cases hc : cmpP r.to a.to < 0
        · simpa [insW, hc] using g
        · simpa [insW, hc] using g

theorem els_own {B : Heap} {k g : Nat} {els : List AV} {ex : Tag} : elsOf (B ++ [.row k g els ex]) (.sl B.length g 0 els.length) = some (k, els) := by
  simp [elsOf, bleE]
theorem idfree_routes (l : List Route) : idfreeL (l.map Route.av) = true := by
  apply idfreeL_of
  intro y hy
  obtain ⟨r, _, rfl⟩ := List.mem_map.1 hy
  exact idfree_route r

theorem refput_new (n : Nat) (h : Heap) (x : AV) (l : List Route) (r : Route) (hr : r.ok) (hok : ∀ i ∈ l, i.ok) (s : RV h x l) (hbig : l.length < 300) (hs : Sorted l) (hright : rightR r = true) (hno : has l r.to = false) :
    ∃ b, call E (n + 503) 92 [x, r.av] h = some (.tup [.lit 20 b ((insAt l (pos l r.to) r).map Route.av), .v (.int .i64 0)], h, ⟨[], [], true⟩) := by
  have hge : ¬ (300 : Int) ≤ ((l.length : Nat) : Int) := by omega
  have hlen := s.len
  have lr : AM.leafs r.av = 20 := Route.leafs hr
  have lrt : AM.leafs r.to.av = 18 := Pre.leafs hr.1
  have ir : isAggA r.av = true := rfl
  have irt : isAggA r.to.av = true := rfl
  have tr : isTupA r.av = false := rfl
  have k72 := fun m => c72 m (h ++ [.row 20 0 [r.av] ⟨true, 58⟩]) r hr
  have k60 := fun m => c60f m (h ++ [.row 20 0 [r.av] ⟨true, 58⟩]) x l r.to hr.1 hok (s.push _) (by omega) hs
  have hf : findT l r.to = -1 := by simp [findT, hno]
  rw [hf] at k60
  rw [hright] at k72
  have hzl : leafsL (List.replicate 16 (AV.v (.int .u8 0))) = 16 := by kernel_rfl
  obtain ⟨fr', t', H', g1, g3, g8, g9, g⟩ := loop92 n h x l r hr hok s (by omega) l [] false [] nilS (h ++ [.row 20 0 [r.av] ⟨true, 58⟩]) (n + 502) [(0, x), (3, .ptr h.length 0 0 [] 0), (8, nilS), (9, .v (.bool false)), (10, .v (.int .i64 0))] rfl (by omega) (by simp; omega) (.inl ⟨rfl, .inl rfl, rfl⟩) rfl
  have hins := insF_eq hr hok hno
  simp only [List.nil_append] at g
  have hbx : H'[h.length]? = some (.row 20 0 [r.av] ⟨true, 58⟩) := by rw [g.old h.length (by simp)]; simp
  rw [← hins]
  unfold insF
  simp -implicitDefEqProofs only [simA, exL, nlC, newCl, args0, oneOrTup, Nat.reduceAdd, Nat.reduceLT, Nat.reduceEqDiff, Nat.reduceLeDiff, Nat.reduceMul, leafsL, idfree, idfreeL, loadE, partE, fieldAddrE, nav, navL, frz, frzL, Int.reduceBEq, Int.reduceBNe, Int.reduceLT, Int.reduceLE, Int.reduceAdd, Int.reduceSub, Int.reduceMul, Int.reduceNeg, vInt, put, putL, setParts, loopB, loopsIn, Nat.reduceSub, Nat.reducePow, Nat.reduceDiv, Nat.reduceMod, sz_58, agg_58, fo_58_0, sz_55, agg_55, bs_36_0_92, ap_36_36, src_36, und_36, ln_36, prs_92_15, bs_36_1_92, keep_92, E_masks, masks, rows_92, Tryz.f92] at g1
  rcases hb : (insW r false l).2 with _ | _
  · rw [hb] at g9
    obtain ⟨u1, K1, v1, d1, b1, hv1, p1⟩ := g.app r.av (idfree_route r)
    have hsl : sliceLen t' = some (insW r false l).1.length := by rw [g.len]; simp
    have hle := (insW_len r false l).1
    have hby : ((insW r false l).1.length + 1) * 48 ≤ 140737488355328 := by omega
    have hB : (h ++ [Row.row 20 0 [r.av] ⟨true, 58⟩]).length = h.length + 1 := by simp
    rw [hB] at hv1
    rcases p1 with ⟨h0, _⟩ | ⟨_, gg, rfl, rfl⟩
    · simp at h0
    · have hel := els_own (B := h ++ [.row 20 0 [r.av] ⟨true, 58⟩]) (k := 20) (g := gg) (els := ((insW r false l).1.map Route.av) ++ [r.av]) (ex := ⟨false, 58⟩)
      have hid : idfreeL (((insW r false l).1.map Route.av) ++ [r.av]) = true := by
        have := idfree_routes ((insW r false l).1 ++ [r])
        simpa using this
      simp only [List.append_assoc, List.cons_append, List.nil_append, hB] at hel
      refine ⟨false, ?_⟩
      rw [call_at (E := E) (f := 92) (fn := Tryz.f92) rfl Tryz.func92 rfl (Nat.le_of_ble_eq_true rfl)]
      rcases hv1 with rfl | rfl
      · simp -implicitDefEqProofs only [simA, exL, nlC, newCl, args0, oneOrTup, Nat.reduceAdd, Nat.reduceLT, Nat.reduceEqDiff, Nat.reduceLeDiff, Nat.reduceMul, leafsL, idfree, idfreeL, loadE, partE, fieldAddrE, nav, navL, frz, frzL, Int.reduceBEq, Int.reduceBNe, Int.reduceLT, Int.reduceLE, Int.reduceAdd, Int.reduceSub, Int.reduceMul, Int.reduceNeg, vInt, put, putL, setParts, loopB, loopsIn, Nat.reduceSub, Nat.reducePow, Nat.reduceDiv, Nat.reduceMod, sz_58, agg_58, fo_58_0, sz_55, agg_55, bs_36_0_92, ap_36_36, src_36, und_36, ln_36, prs_92_15, bs_36_1_92, keep_92, E_masks, masks, rows_92, Tryz.f92, hlen, lr, lrt, ir, irt, tr, route_nav, k72, k60, hge, hzl, g1, g3, g8, g9, hbx, hsl, hby, b1]
        simp only [List.length_append, List.length_cons, List.length_nil] at hel
        rw [hel]
        simp [hid, Zen]
      · simp -implicitDefEqProofs only [simA, exL, nlC, newCl, args0, oneOrTup, Nat.reduceAdd, Nat.reduceLT, Nat.reduceEqDiff, Nat.reduceLeDiff, Nat.reduceMul, leafsL, idfree, idfreeL, loadE, partE, fieldAddrE, nav, navL, frz, frzL, Int.reduceBEq, Int.reduceBNe, Int.reduceLT, Int.reduceLE, Int.reduceAdd, Int.reduceSub, Int.reduceMul, Int.reduceNeg, vInt, put, putL, setParts, loopB, loopsIn, Nat.reduceSub, Nat.reducePow, Nat.reduceDiv, Nat.reduceMod, sz_58, agg_58, fo_58_0, sz_55, agg_55, bs_36_0_92, ap_36_36, src_36, und_36, ln_36, prs_92_15, bs_36_1_92, keep_92, E_masks, masks, rows_92, Tryz.f92, hlen, lr, lrt, ir, irt, tr, route_nav, k72, k60, hge, hzl, g1, g3, g8, g9, hbx, hsl, hby, b1]
        simp only [List.length_append, List.length_cons, List.length_nil] at hel
        rw [hel]
        simp [hid, Zen]
  · rw [hb] at g9
    rcases g with ⟨h0, _⟩ | ⟨_, gg, rfl, rfl⟩
    · have h0' : (insW r false l).1 = [] := by simpa using h0
      unfold insF at hins
      rw [hb, if_pos rfl, h0'] at hins
      have := congrArg List.length hins
      rw [ins_len (pos_le l r.to)] at this
      simp at this
    · have hB : (h ++ [Row.row 20 0 [r.av] ⟨true, 58⟩]).length = h.length + 1 := by simp
      have hel := els_own (B := h ++ [.row 20 0 [r.av] ⟨true, 58⟩]) (k := 20) (g := gg) (els := ((insW r false l).1.map Route.av)) (ex := ⟨false, 58⟩)
      have hid := idfree_routes (insW r false l).1
      simp only [List.append_assoc, List.cons_append, List.nil_append, hB] at hel
      refine ⟨false, ?_⟩
      rw [call_at (E := E) (f := 92) (fn := Tryz.f92) rfl Tryz.func92 rfl (Nat.le_of_ble_eq_true rfl)]
      simp -implicitDefEqProofs only [simA, exL, nlC, newCl, args0, oneOrTup, Nat.reduceAdd, Nat.reduceLT, Nat.reduceEqDiff, Nat.reduceLeDiff, Nat.reduceMul, leafsL, idfree, idfreeL, loadE, partE, fieldAddrE, nav, navL, frz, frzL, Int.reduceBEq, Int.reduceBNe, Int.reduceLT, Int.reduceLE, Int.reduceAdd, Int.reduceSub, Int.reduceMul, Int.reduceNeg, vInt, put, putL, setParts, loopB, loopsIn, Nat.reduceSub, Nat.reducePow, Nat.reduceDiv, Nat.reduceMod, sz_58, agg_58, fo_58_0, sz_55, agg_55, bs_36_0_92, ap_36_36, src_36, und_36, ln_36, prs_92_15, bs_36_1_92, keep_92, E_masks, masks, rows_92, Tryz.f92, hlen, lr, lrt, ir, irt, tr, route_nav, k72, k60, hge, hzl, g1, g3, g8, g9]
      rw [hel]
      simp [hid, Zen]

theorem RV.frz {h : Heap} {x : AV} {l : List Route} (v : RV h x l) (H : Heap) : AM.frz h.length H x = some x := by
  rcases v with ⟨rfl, rfl⟩ | ⟨b, rfl⟩ | ⟨id, g, els, ex, rfl, hr, ht⟩
  · rfl
  · simp [AM.frz, idfree_routes]
  · have := lt_of_getElem? hr
    simp [AM.frz, bltE, this]

theorem refput_bad (n : Nat) (h : Heap) (x : AV) (l : List Route) (r : Route) (hr : r.ok) (s : RV h x l) (hright : rightR r = false) :
    call E (n + 503) 92 [x, r.av] h = some (.tup [x, .v (.int .i64 1)], h, ⟨[], [], true⟩) := by
  have lr : AM.leafs r.av = 20 := Route.leafs hr
  have ir : isAggA r.av = true := rfl
  have tr : isTupA r.av = false := rfl
  have k72 := fun m => c72 m (h ++ [.row 20 0 [r.av] ⟨true, 58⟩]) r hr
  rw [hright] at k72
  rw [call_at (E := E) (f := 92) (fn := Tryz.f92) rfl Tryz.func92 rfl (Nat.le_of_ble_eq_true rfl)]
  simp -implicitDefEqProofs only [simA, exL, nlC, newCl, args0, oneOrTup, Nat.reduceAdd, Nat.reduceLT, Nat.reduceEqDiff, Nat.reduceLeDiff, Nat.reduceMul, leafsL, idfree, idfreeL, loadE, partE, fieldAddrE, nav, navL, frz, frzL, Int.reduceBEq, Int.reduceBNe, Int.reduceLT, Int.reduceLE, Int.reduceAdd, Int.reduceSub, Int.reduceMul, Int.reduceNeg, vInt, put, putL, setParts, loopB, loopsIn, Nat.reduceSub, Nat.reducePow, Nat.reduceDiv, Nat.reduceMod, sz_58, agg_58, fo_58_0, sz_55, agg_55, bs_36_0_92, ap_36_36, src_36, und_36, ln_36, prs_92_15, bs_36_1_92, keep_92, E_masks, masks, rows_92, Tryz.f92, lr, ir, tr, k72, s.frz, Zen]

theorem refput_full (n : Nat) (h : Heap) (x : AV) (l : List Route) (r : Route) (hr : r.ok) (hok : ∀ i ∈ l, i.ok) (s : RV h x l) (hbig : l.length < 490) (hs : Sorted l) (hright : rightR r = true) (hno : has l r.to = false) (hfull : 300 ≤ l.length) :
    call E (n + 503) 92 [x, r.av] h = some (.tup [x, .v (.int .i64 7)], h, ⟨[], [], true⟩) := by
  have hge : (300 : Int) ≤ ((l.length : Nat) : Int) := by omega
  have hlen := s.len
  have lr : AM.leafs r.av = 20 := Route.leafs hr
  have lrt : AM.leafs r.to.av = 18 := Pre.leafs hr.1
  have ir : isAggA r.av = true := rfl
  have irt : isAggA r.to.av = true := rfl
  have tr : isTupA r.av = false := rfl
  have k72 := fun m => c72 m (h ++ [.row 20 0 [r.av] ⟨true, 58⟩]) r hr
  have k60 := fun m => c60f m (h ++ [.row 20 0 [r.av] ⟨true, 58⟩]) x l r.to hr.1 hok (s.push _) hbig hs
  have hf : findT l r.to = -1 := by simp [findT, hno]
  rw [hf] at k60
  rw [hright] at k72
  rw [call_at (E := E) (f := 92) (fn := Tryz.f92) rfl Tryz.func92 rfl (Nat.le_of_ble_eq_true rfl)]
  simp -implicitDefEqProofs only [simA, exL, nlC, newCl, args0, oneOrTup, Nat.reduceAdd, Nat.reduceLT, Nat.reduceEqDiff, Nat.reduceLeDiff, Nat.reduceMul, leafsL, idfree, idfreeL, loadE, partE, fieldAddrE, nav, navL, frz, frzL, Int.reduceBEq, Int.reduceBNe, Int.reduceLT, Int.reduceLE, Int.reduceAdd, Int.reduceSub, Int.reduceMul, Int.reduceNeg, vInt, put, putL, setParts, loopB, loopsIn, Nat.reduceSub, Nat.reducePow, Nat.reduceDiv, Nat.reduceMod, sz_58, agg_58, fo_58_0, sz_55, agg_55, bs_36_0_92, ap_36_36, src_36, und_36, ln_36, prs_92_15, bs_36_1_92, keep_92, E_masks, masks, rows_92, Tryz.f92, hlen, lr, lrt, ir, irt, tr, route_nav, k72, k60, hge, s.frz, Zen]

theorem refput_there (n : Nat) (h : Heap) (x : AV) (l : List Route) (r : Route) (hr : r.ok) (hok : ∀ i ∈ l, i.ok) (s : RV h x l) (hbig : l.length < 490) (hs : Sorted l) (hright : rightR r = true) (hhas : has l r.to = true) :
    ∃ b, call E (n + 503) 92 [x, r.av] h = some (.tup [.lit 20 b ((l.set (pos l r.to) r).map Route.av), .v (.int .i64 0)], h, ⟨[], [], true⟩) := by
  have hlen := s.len
  have lr : AM.leafs r.av = 20 := Route.leafs hr
  have lrt : AM.leafs r.to.av = 18 := Pre.leafs hr.1
  have ir : isAggA r.av = true := rfl
  have irt : isAggA r.to.av = true := rfl
  have tr : isTupA r.av = false := rfl
  have k72 := fun m => c72 m (h ++ [.row 20 0 [r.av] ⟨true, 58⟩]) r hr
  have k60 := fun m => c60f m (h ++ [.row 20 0 [r.av] ⟨true, 58⟩]) x l r.to hr.1 hok (s.push _) hbig hs
  have hf : findT l r.to = ((pos l r.to : Nat) : Int) := by simp [findT, hhas]
  rw [hf] at k60
  rw [hright] at k72
  obtain ⟨r0, hr0, hto⟩ := has_some hok hr.1 hhas
  have hpl := (List.getElem?_eq_some_iff.1 hr0).1
  have hne : l ≠ [] := by
    intro h0
    subst h0
    simp at hpl
  have hsrc := (s.push [.row 20 0 [r.av] ⟨true, 58⟩]).src
  have hge : (0 : Int) ≤ ((pos l r.to : Nat) : Int) := by omega
  have hby : l.length * 48 ≤ 140737488355328 := by omega
  have hB : (h ++ [Row.row 20 0 [r.av] ⟨true, 58⟩]).length = h.length + 1 := by simp
  obtain ⟨s', h', sto, c, e1, rfl, e2, _⟩ := app_cpy (h := h ++ [.row 20 0 [r.av] ⟨true, 58⟩]) hbig
  rcases e2 with ⟨_, h0, _⟩ | ⟨_, h0, _⟩ | ⟨_, rfl, rfl⟩
  · exact (hne h0).elim
  · exact (hne h0).elim
  · simp -implicitDefEqProofs only [simA, exL, nlC, newCl, args0, oneOrTup, Nat.reduceAdd, Nat.reduceLT, Nat.reduceEqDiff, Nat.reduceLeDiff, Nat.reduceMul, leafsL, idfree, idfreeL, loadE, partE, fieldAddrE, nav, navL, frz, frzL, Int.reduceBEq, Int.reduceBNe, Int.reduceLT, Int.reduceLE, Int.reduceAdd, Int.reduceSub, Int.reduceMul, Int.reduceNeg, vInt, put, putL, setParts, loopB, loopsIn, Nat.reduceSub, Nat.reducePow, Nat.reduceDiv, Nat.reduceMod] at e1
    have hidx : indexAddrE E.P (h ++ [.row 20 0 [r.av] ⟨true, 58⟩, .row 20 0 (l.map Route.av) ⟨false, 58⟩]) 36 (.sl (h.length + 1) 0 0 l.length) (.v (.int .i64 ((pos l r.to : Nat) : Int))) = some (.ptr (h.length + 1) 0 (pos l r.to) [] 0) := by
      have h2 : ((pos l r.to : Nat) : Int) < l.length := by omega
      simp [indexAddrE, und_36, sz_58, idx, h2]
    have hlr0 : AM.leafs r0.av = 20 := Route.leafs (hok r0 (List.mem_of_getElem? hr0))
    have hst : storeE E.P (h ++ [.row 20 0 [r.av] ⟨true, 58⟩, .row 20 0 (l.map Route.av) ⟨false, 58⟩]) 58 (.ptr (h.length + 1) 0 (pos l r.to) [] 0) r.av = some (h ++ [.row 20 0 [r.av] ⟨true, 58⟩, .row 20 0 ((l.set (pos l r.to) r).map Route.av) ⟨false, 58⟩], h.length + 1) := by
      have hp : put r0.av [] 0 r.av = some r.av := by unfold put; simp [lr, hlr0]
      have hel : (l.map Route.av)[pos l r.to]? = some r0.av := by simp [hr0]
      simp [storeE, sz_58, lr, tr, hr0, hp, List.map_set]
    have hel := els_own (B := h ++ [.row 20 0 [r.av] ⟨true, 58⟩]) (k := 20) (g := 0) (els := ((l.set (pos l r.to) r).map Route.av)) (ex := ⟨false, 58⟩)
    have hid : idfreeL ((l.map Route.av).set (pos l r.to) r.av) = true := by rw [← List.map_set]; exact idfree_routes _
    have hidr := idfree_route r
    simp only [List.append_assoc, List.cons_append, List.nil_append, hB, List.length_map, List.length_set] at hel
    refine ⟨false, ?_⟩
    rw [call_at (E := E) (f := 92) (fn := Tryz.f92) rfl Tryz.func92 rfl (Nat.le_of_ble_eq_true rfl)]
    simp -implicitDefEqProofs only [simA, exL, nlC, newCl, args0, oneOrTup, Nat.reduceAdd, Nat.reduceLT, Nat.reduceEqDiff, Nat.reduceLeDiff, Nat.reduceMul, leafsL, idfree, idfreeL, loadE, partE, fieldAddrE, nav, navL, frz, frzL, Int.reduceBEq, Int.reduceBNe, Int.reduceLT, Int.reduceLE, Int.reduceAdd, Int.reduceSub, Int.reduceMul, Int.reduceNeg, vInt, put, putL, setParts, loopB, loopsIn, Nat.reduceSub, Nat.reducePow, Nat.reduceDiv, Nat.reduceMod, sz_58, agg_58, fo_58_0, sz_55, agg_55, bs_36_0_92, ap_36_36, src_36, und_36, ln_36, prs_92_15, bs_36_1_92, keep_92, E_masks, masks, rows_92, Tryz.f92, hlen, lr, lrt, ir, irt, tr, route_nav, k72, k60, hge, hsrc, e1, hidx, hst, hidr]
    rw [hel]
    simp [hid, Zen]

end Go.Proofs.YtobdjegooonklaaGreat

set_option linter.unusedSimpArgs false
set_option linter.unusedVariables false
set_option maxRecDepth 100000
set_option maxHeartbeats 1000000
namespace Go.Proofs.YtobdjegooonklaaGreat
open Go Go.AM

theorem OutG.appL {B : Heap} {k : Nat} {ty : TypeId} {els : List AV} {x : AV} {H : Heap} (o : OutG B k ty els x H) (ys : List AV) (hy : idfreeL ys = true) : ∃ x' H' s c, appendTo H ty k x ys = some (x', H', s, c) ∧ (s = none ∨ s = some (B.length, false)) ∧ OutG B k ty (els ++ ys) x' H' := by
  cases ys with
  | nil =>
    rcases o with ⟨rfl, rfl | rfl, rfl⟩ | ⟨hne, g, rfl, rfl⟩
    · exact ⟨nilS, _, none, _, rfl, .inl rfl, .inl ⟨rfl, .inl rfl, rfl⟩⟩
    · exact ⟨.lit k true [], _, none, _, rfl, .inl rfl, .inl ⟨rfl, .inr rfl, rfl⟩⟩
    · have := app_none (h := B ++ [.row k g els ⟨false, ty⟩]) (id := B.length) (gen := g) (len := els.length) (k := k) (e := ty) (els := els) (ex := ⟨false, ty⟩) (by rw [end0]; rfl) (Nat.le_refl _)
      rw [endS0] at this
      exact ⟨_, _, _, _, this, .inr rfl, .inr ⟨by simpa using hne, g, by simp, by simp⟩⟩
  | cons y ys =>
    rcases o with ⟨rfl, rfl | rfl, rfl⟩ | ⟨hne, g, rfl, rfl⟩
    · exact ⟨_, _, none, _, rfl, .inl rfl, .inr ⟨by simp, 0, rfl, rfl⟩⟩
    · exact ⟨.sl H.length 0 0 (y :: ys).length, H ++ [.row k 0 (y :: ys) ⟨false, ty⟩], none, .st H.length, by rw [Zev]; simp, .inl rfl, .inr ⟨by simp, 0, rfl, rfl⟩⟩
    · have := app_new (h := B ++ [.row k g els ⟨false, ty⟩]) (id := B.length) (gen := g) (len := els.length) (k := k) (e := ty) (xs := y :: ys) (els := els) (ex := ⟨false, ty⟩) (by rw [end0]; rfl) rfl rfl (by simp)
      rw [endS0] at this
      refine ⟨_, _, _, _, this, .inr (by simp [hy]), .inr ⟨by simp, g + 1, ?_, ?_⟩⟩
      · simp
      · simp
/-- The first one: a new row, or nothing. -/
theorem OutG.app0 {B : Heap} {k : Nat} {ty : TypeId} (ys : List AV) : ∃ x' H' c, appendTo B ty k (.lit k true []) ys = some (x', H', none, c) ∧ (c = .quiet ∨ c = .st B.length) ∧ OutG B k ty ys x' H' ∧ x' ≠ nilS := by
  cases ys with
  | nil => exact ⟨.lit k true [], _, _, rfl, .inl rfl, .inl ⟨rfl, .inr rfl, rfl⟩, by simp⟩
  | cons y ys => exact ⟨.sl B.length 0 0 (y :: ys).length, B ++ [.row k 0 (y :: ys) ⟨false, ty⟩], .st B.length, by rw [Zev]; simp, .inr rfl, .inr ⟨by simp, 0, rfl, rfl⟩, by simp⟩
theorem OutG.appK {B : Heap} {k : Nat} {ty : TypeId} {els : List AV} {x : AV} {H : Heap} (o : OutG B k ty els x H) (hx : x ≠ nilS) (ys : List AV) (hy : idfreeL ys = true) : ∃ x' H' s c, appendTo H ty k x ys = some (x', H', s, c) ∧ (s = none ∨ s = some (B.length, false)) ∧ OutG B k ty (els ++ ys) x' H' ∧ x' ≠ nilS := by
  obtain ⟨x', H', s, c, h1, h2, h3⟩ := o.appL ys hy
  refine ⟨x', H', s, c, h1, h2, h3, ?_⟩
  rintro rfl
  rcases h3 with ⟨h0, _, _⟩ | ⟨_, g, h4, _⟩
  · obtain ⟨rfl, rfl⟩ := List.append_eq_nil_iff.1 h0
    rcases o with ⟨_, rfl | rfl, rfl⟩ | ⟨hne, _⟩
    · exact hx rfl
    · rw [Zev] at h1
      simp at h1
    · exact hne rfl
  · cases h4
theorem OutG.frz {B : Heap} {k : Nat} {ty : TypeId} {els : List AV} {x : AV} {H : Heap} (o : OutG B k ty els x H) (hx : x ≠ nilS) (hid : idfreeL els = true) {n0 : Nat} (hn : n0 ≤ B.length) : ∃ b, AM.frz n0 H x = some (.lit k b els) := by
  rcases o with ⟨rfl, rfl | rfl, rfl⟩ | ⟨hne, g, rfl, rfl⟩
  · exact (hx rfl).elim
  · exact ⟨true, rfl⟩
  · have hlt : ¬ (B.length < n0) := by omega
    have := els_own (B := B) (k := k) (g := g) (els := els) (ex := ⟨false, ty⟩)
    exact ⟨false, by simp [AM.frz, bltE, hlt, this, hid]⟩

theorem tl_hi {h : Heap} {id gen n : Nat} {els : List AV} {ex : Tag} {q : Nat} (hr : h[id]? = some (.row 20 gen els ex)) (hq : q ≤ n) (hn : n ≤ els.length) : sliceE E.P h 36 (.sl id gen 0 n) none (some (.v (.int .i64 q))) none = some (.sl id gen 0 q) := by
  have h1 : (q : Int) ≤ n := by omega
  have h2 : q ≤ els.length := by omega
  have h3 : (q : Int) ≤ els.length := by omega
  simp [sliceE, und_36, sz_58, hr, bound, h1, h2, h3]
theorem tl_from {h : Heap} {id gen n : Nat} {els : List AV} {ex : Tag} {q : Nat} (hr : h[id]? = some (.row 20 gen els ex)) (hq : q ≤ n) : sliceE E.P h 36 (.sl id gen 0 n) (some (.v (.int .i64 q))) none none = some (.sl id gen q (n - q)) := by
  have h1 : (q : Int) ≤ n := by omega
  simp [sliceE, und_36, sz_58, hr, bound, h1]
theorem lit_hi {h : Heap} {b : Bool} {l : List Route} {q : Nat} (hq : q ≤ l.length) : ∃ b', sliceE E.P h 36 (.lit 20 b (l.map Route.av)) none (some (.v (.int .i64 (q : Nat)))) none = some (.lit 20 b' ((l.take q).map Route.av)) := by
  have h1 : (q : Int) ≤ l.length := by omega
  exact ⟨_, by simp [sliceE, und_36, sz_58, bound, h1, List.map_take]; rfl⟩
theorem lit_lo {h : Heap} {b : Bool} {l : List Route} {q : Nat} (hq : q ≤ l.length) : ∃ b', sliceE E.P h 36 (.lit 20 b (l.map Route.av)) (some (.v (.int .i64 (q : Nat)))) none none = some (.lit 20 b' ((l.drop q).map Route.av)) := by
  have h1 : (q : Int) ≤ l.length := by omega
  exact ⟨_, by simp [sliceE, und_36, sz_58, bound, h1, List.map_drop, List.take_of_length_le]; rfl⟩

theorem refdrop_none (n : Nat) (h : Heap) (x : AV) (l : List Route) (p : Pre) (hp : p.ok) (hok : ∀ i ∈ l, i.ok) (s : RV h x l) (hbig : l.length < 490) (hs : Sorted l) (hno : has l p = false) :
    call E (n + 501) 93 [x, p.av] h = some (.tup [x, .v (.int .i64 8)], h, ⟨[], [], true⟩) := by
  have lp : AM.leafs p.av = 18 := Pre.leafs hp
  have ip : isAggA p.av = true := rfl
  have tp : isTupA p.av = false := rfl
  have k60 := fun m => c60f m (h ++ [.row 18 0 [p.av] ⟨true, 55⟩]) x l p hp hok (s.push _) hbig hs
  have hf : findT l p = -1 := by simp [findT, hno]
  rw [hf] at k60
  rw [call_at (E := E) (f := 93) (fn := Tryz.f93) rfl Tryz.func93 rfl (Nat.le_of_ble_eq_true rfl)]
  simp -implicitDefEqProofs only [simA, exL, nlC, newCl, args0, oneOrTup, Nat.reduceAdd, Nat.reduceLT, Nat.reduceEqDiff, Nat.reduceLeDiff, Nat.reduceMul, leafsL, idfree, idfreeL, loadE, partE, fieldAddrE, nav, navL, frz, frzL, Int.reduceBEq, Int.reduceBNe, Int.reduceLT, Int.reduceLE, Int.reduceAdd, Int.reduceSub, Int.reduceMul, Int.reduceNeg, vInt, put, putL, setParts, loopB, loopsIn, Nat.reduceSub, Nat.reducePow, Nat.reduceDiv, Nat.reduceMod, sz_55, agg_55, prs_93_4, bs_36_0_93, und_36, sz_58, ap_36_36, src_36, keep_93, E_masks, masks, rows_93, Tryz.f93, lp, ip, tp, k60, s.frz, Zen]

theorem refdrop_there (n : Nat) (h : Heap) (x : AV) (l : List Route) (p : Pre) (hp : p.ok) (hok : ∀ i ∈ l, i.ok) (s : RV h x l) (hbig : l.length < 490) (hs : Sorted l) (hhas : has l p = true) :
    ∃ b, call E (n + 501) 93 [x, p.av] h = some (.tup [.lit 20 b ((delAt l (pos l p)).map Route.av), .v (.int .i64 0)], h, ⟨[], [], true⟩) := by
  have lp : AM.leafs p.av = 18 := Pre.leafs hp
  have ip : isAggA p.av = true := rfl
  have tp : isTupA p.av = false := rfl
  have k60 := fun m => c60f m (h ++ [.row 18 0 [p.av] ⟨true, 55⟩]) x l p hp hok (s.push _) hbig hs
  have hf : findT l p = ((pos l p : Nat) : Int) := by simp [findT, hhas]
  rw [hf] at k60
  obtain ⟨r0, hr0, hto⟩ := has_some hok hp hhas
  have hpl := (List.getElem?_eq_some_iff.1 hr0).1
  have hge : ¬ (((pos l p : Nat) : Int) < 0) := by omega
  have w1 := wrapN1 (n := pos l p) (by omega)
  have hby : (l.take (pos l p)).length * 48 ≤ 140737488355328 := by simp; omega
  have hby2 : ((l.take (pos l p)).length + (l.drop (pos l p + 1)).length) * 48 ≤ 140737488355328 := by simp; omega
  have hB : (h ++ [Row.row 18 0 [p.av] ⟨true, 55⟩]).length = h.length + 1 := by simp
  obtain ⟨x1, H1, c1, a1, hc1, o1, n1⟩ := OutG.app0 (B := h ++ [.row 18 0 [p.av] ⟨true, 55⟩]) (k := 20) (ty := 58) ((l.take (pos l p)).map Route.av)
  obtain ⟨x2, H2, s2, c2, a2, hs2, o2, n2⟩ := o1.appK n1 ((l.drop (pos l p + 1)).map Route.av) (idfree_routes _)
  have hdel : (l.take (pos l p)).map Route.av ++ (l.drop (pos l p + 1)).map Route.av = (delAt l (pos l p)).map Route.av := by simp [delAt]
  rw [hdel] at o2
  obtain ⟨b, hb⟩ := o2.frz n2 (idfree_routes _) (n0 := h.length) (by simp)
  have hsl1 : sliceLen x1 = some (l.take (pos l p)).length := by rw [o1.len]; simp
  rw [hB] at hs2 hc1
  refine ⟨b, ?_⟩
  have sH : RV (h ++ [.row 18 0 [p.av] ⟨true, 55⟩]) x l := s.push _
  have sH1 : RV H1 x l := s.stay fun id hid => by rw [o1.old id (by simp; omega), List.getElem?_append_left hid]
  have a1' : apO (h ++ [.row 18 0 [p.av] ⟨true, 55⟩]) 58 20 48 (.lit 20 true []) (some ((l.take (pos l p)).map Route.av)) = some (x1, H1, none, c1) := by
    rw [Zer, if_pos (by simp [sliceLen]; omega)]
    exact a1
  have a2' : apO H1 58 20 48 x1 (some ((l.drop (pos l p + 1)).map Route.av)) = some (x2, H2, s2, c2) := by
    rw [Zer, if_pos (by rw [hsl1]; simp; omega)]
    exact a2
  simp -implicitDefEqProofs only [simA, exL, nlC, newCl, args0, oneOrTup, Nat.reduceAdd, Nat.reduceLT, Nat.reduceEqDiff, Nat.reduceLeDiff, Nat.reduceMul, leafsL, idfree, idfreeL, loadE, partE, fieldAddrE, nav, navL, frz, frzL, Int.reduceBEq, Int.reduceBNe, Int.reduceLT, Int.reduceLE, Int.reduceAdd, Int.reduceSub, Int.reduceMul, Int.reduceNeg, vInt, put, putL, setParts, loopB, loopsIn, Nat.reduceSub, Nat.reducePow, Nat.reduceDiv, Nat.reduceMod] at a1' a2'
  have hcc : ∀ id, id < h.length → decide (id = h.length + 1) = false := fun id hid => decide_eq_false (by omega)
  have hcc2 : ∀ id, id < h.length → decide (h.length + 1 = id) = false := fun id hid => decide_eq_false (by omega)
  rcases s with ⟨rfl, rfl⟩ | ⟨b', rfl⟩ | ⟨id, g, els, ex, rfl, hrow, ht⟩
  · simp at hpl
  · obtain ⟨b1, e1⟩ := lit_hi (h := h ++ [.row 18 0 [p.av] ⟨true, 55⟩]) (b := b') (l := l) (q := pos l p) (by omega)
    obtain ⟨b2, e2⟩ := lit_lo (h := H1) (b := b') (l := l) (q := pos l p + 1) (by omega)
    rw [call_at (E := E) (f := 93) (fn := Tryz.f93) rfl Tryz.func93 rfl (Nat.le_of_ble_eq_true rfl)]
    rcases hc1 with rfl | rfl <;> rcases hs2 with rfl | rfl
    · simp -implicitDefEqProofs only [simA, exL, nlC, newCl, args0, oneOrTup, Nat.reduceAdd, Nat.reduceLT, Nat.reduceEqDiff, Nat.reduceLeDiff, Nat.reduceMul, leafsL, idfree, idfreeL, loadE, partE, fieldAddrE, nav, navL, frz, frzL, Int.reduceBEq, Int.reduceBNe, Int.reduceLT, Int.reduceLE, Int.reduceAdd, Int.reduceSub, Int.reduceMul, Int.reduceNeg, vInt, put, putL, setParts, loopB, loopsIn, Nat.reduceSub, Nat.reducePow, Nat.reduceDiv, Nat.reduceMod, sz_55, agg_55, prs_93_4, bs_36_0_93, und_36, sz_58, ap_36_36, src_36, keep_93, E_masks, masks, rows_93, Tryz.f93, lp, ip, tp, k60, hge, w1, e1, e2, a1', a2', hb, pairsOK, clsOf, compat]
    · simp -implicitDefEqProofs only [simA, exL, nlC, newCl, args0, oneOrTup, Nat.reduceAdd, Nat.reduceLT, Nat.reduceEqDiff, Nat.reduceLeDiff, Nat.reduceMul, leafsL, idfree, idfreeL, loadE, partE, fieldAddrE, nav, navL, frz, frzL, Int.reduceBEq, Int.reduceBNe, Int.reduceLT, Int.reduceLE, Int.reduceAdd, Int.reduceSub, Int.reduceMul, Int.reduceNeg, vInt, put, putL, setParts, loopB, loopsIn, Nat.reduceSub, Nat.reducePow, Nat.reduceDiv, Nat.reduceMod, sz_55, agg_55, prs_93_4, bs_36_0_93, und_36, sz_58, ap_36_36, src_36, keep_93, E_masks, masks, rows_93, Tryz.f93, lp, ip, tp, k60, hge, w1, e1, e2, a1', a2', hb, pairsOK, clsOf, compat]
    · simp -implicitDefEqProofs only [simA, exL, nlC, newCl, args0, oneOrTup, Nat.reduceAdd, Nat.reduceLT, Nat.reduceEqDiff, Nat.reduceLeDiff, Nat.reduceMul, leafsL, idfree, idfreeL, loadE, partE, fieldAddrE, nav, navL, frz, frzL, Int.reduceBEq, Int.reduceBNe, Int.reduceLT, Int.reduceLE, Int.reduceAdd, Int.reduceSub, Int.reduceMul, Int.reduceNeg, vInt, put, putL, setParts, loopB, loopsIn, Nat.reduceSub, Nat.reducePow, Nat.reduceDiv, Nat.reduceMod, sz_55, agg_55, prs_93_4, bs_36_0_93, und_36, sz_58, ap_36_36, src_36, keep_93, E_masks, masks, rows_93, Tryz.f93, lp, ip, tp, k60, hge, w1, e1, e2, a1', a2', hb, pairsOK, clsOf, compat]
    · simp -implicitDefEqProofs only [simA, exL, nlC, newCl, args0, oneOrTup, Nat.reduceAdd, Nat.reduceLT, Nat.reduceEqDiff, Nat.reduceLeDiff, Nat.reduceMul, leafsL, idfree, idfreeL, loadE, partE, fieldAddrE, nav, navL, frz, frzL, Int.reduceBEq, Int.reduceBNe, Int.reduceLT, Int.reduceLE, Int.reduceAdd, Int.reduceSub, Int.reduceMul, Int.reduceNeg, vInt, put, putL, setParts, loopB, loopsIn, Nat.reduceSub, Nat.reducePow, Nat.reduceDiv, Nat.reduceMod, sz_55, agg_55, prs_93_4, bs_36_0_93, und_36, sz_58, ap_36_36, src_36, keep_93, E_masks, masks, rows_93, Tryz.f93, lp, ip, tp, k60, hge, w1, e1, e2, a1', a2', hb, pairsOK, clsOf, compat]
  · have hid := lt_of_getElem? hrow
    have hrowB : (h ++ [Row.row 18 0 [p.av] ⟨true, 55⟩])[id]? = some (.row 20 g els ex) := by rw [List.getElem?_append_left hid]; exact hrow
    have hrow1 : H1[id]? = some (.row 20 g els ex) := by rw [o1.old id (by simp; omega)]; exact hrowB
    have hle : l.length ≤ els.length := by
      have := congrArg List.length ht
      simp at this
      omega
    have e1 := tl_hi (q := pos l p) hrowB (n := l.length) (by omega) hle
    have e2 := tl_from (q := pos l p + 1) hrow1 (n := l.length) (by omega)
    have f1 : srS (h ++ [Row.row 18 0 [p.av] ⟨true, 55⟩]) 20 (.sl id g 0 (pos l p)) = some ((l.take (pos l p)).map Route.av) := by
      have h1 : pos l p ≤ els.length := by omega
      have h2 : els.take (pos l p) = (l.take (pos l p)).map Route.av := by
        have := congrArg (List.take (pos l p)) ht
        rw [List.take_take, Nat.min_eq_left (by omega), ← List.map_take] at this
        exact this
      rw [srS_sl]
      simp [elsOf, hrowB, bleE, h1, h2]
    have f2 : srS H1 20 (.sl id g (pos l p + 1) (l.length - (pos l p + 1))) = some ((l.drop (pos l p + 1)).map Route.av) := by
      have h1 : pos l p + 1 + (l.length - (pos l p + 1)) ≤ els.length := by omega
      have h2 : (els.drop (pos l p + 1)).take (l.length - (pos l p + 1)) = (l.drop (pos l p + 1)).map Route.av := by
        have := congrArg (List.drop (pos l p + 1)) ht
        rw [← List.map_drop, List.drop_take] at this
        exact this
      rw [srS_sl]
      simp [elsOf, hrow1, bleE, h1, h2]
    rw [call_at (E := E) (f := 93) (fn := Tryz.f93) rfl Tryz.func93 rfl (Nat.le_of_ble_eq_true rfl)]
    rcases hc1 with rfl | rfl <;> rcases hs2 with rfl | rfl
    · simp -implicitDefEqProofs only [simA, exL, nlC, newCl, args0, oneOrTup, Nat.reduceAdd, Nat.reduceLT, Nat.reduceEqDiff, Nat.reduceLeDiff, Nat.reduceMul, leafsL, idfree, idfreeL, loadE, partE, fieldAddrE, nav, navL, frz, frzL, Int.reduceBEq, Int.reduceBNe, Int.reduceLT, Int.reduceLE, Int.reduceAdd, Int.reduceSub, Int.reduceMul, Int.reduceNeg, vInt, put, putL, setParts, loopB, loopsIn, Nat.reduceSub, Nat.reducePow, Nat.reduceDiv, Nat.reduceMod, sz_55, agg_55, prs_93_4, bs_36_0_93, und_36, sz_58, ap_36_36, src_36, keep_93, E_masks, masks, rows_93, Tryz.f93, lp, ip, tp, k60, hge, w1, e1, e2, f1, f2, a1', a2', hb, pairsOK, clsOf, compat]
    · simp -implicitDefEqProofs only [simA, exL, nlC, newCl, args0, oneOrTup, Nat.reduceAdd, Nat.reduceLT, Nat.reduceEqDiff, Nat.reduceLeDiff, Nat.reduceMul, leafsL, idfree, idfreeL, loadE, partE, fieldAddrE, nav, navL, frz, frzL, Int.reduceBEq, Int.reduceBNe, Int.reduceLT, Int.reduceLE, Int.reduceAdd, Int.reduceSub, Int.reduceMul, Int.reduceNeg, vInt, put, putL, setParts, loopB, loopsIn, Nat.reduceSub, Nat.reducePow, Nat.reduceDiv, Nat.reduceMod, sz_55, agg_55, prs_93_4, bs_36_0_93, und_36, sz_58, ap_36_36, src_36, keep_93, E_masks, masks, rows_93, Tryz.f93, lp, ip, tp, k60, hge, w1, e1, e2, f1, f2, a1', a2', hb, pairsOK, clsOf, compat]
    · simp -implicitDefEqProofs only [simA, exL, nlC, newCl, args0, oneOrTup, Nat.reduceAdd, Nat.reduceLT, Nat.reduceEqDiff, Nat.reduceLeDiff, Nat.reduceMul, leafsL, idfree, idfreeL, loadE, partE, fieldAddrE, nav, navL, frz, frzL, Int.reduceBEq, Int.reduceBNe, Int.reduceLT, Int.reduceLE, Int.reduceAdd, Int.reduceSub, Int.reduceMul, Int.reduceNeg, vInt, put, putL, setParts, loopB, loopsIn, Nat.reduceSub, Nat.reducePow, Nat.reduceDiv, Nat.reduceMod, sz_55, agg_55, prs_93_4, bs_36_0_93, und_36, sz_58, ap_36_36, src_36, keep_93, E_masks, masks, rows_93, Tryz.f93, lp, ip, tp, k60, hge, w1, e1, e2, f1, f2, a1', a2', hb, hcc id hid, hcc2 id hid, pairsOK, clsOf, compat]
    · simp -implicitDefEqProofs only [simA, exL, nlC, newCl, args0, oneOrTup, Nat.reduceAdd, Nat.reduceLT, Nat.reduceEqDiff, Nat.reduceLeDiff, Nat.reduceMul, leafsL, idfree, idfreeL, loadE, partE, fieldAddrE, nav, navL, frz, frzL, Int.reduceBEq, Int.reduceBNe, Int.reduceLT, Int.reduceLE, Int.reduceAdd, Int.reduceSub, Int.reduceMul, Int.reduceNeg, vInt, put, putL, setParts, loopB, loopsIn, Nat.reduceSub, Nat.reducePow, Nat.reduceDiv, Nat.reduceMod, sz_55, agg_55, prs_93_4, bs_36_0_93, und_36, sz_58, ap_36_36, src_36, keep_93, E_masks, masks, rows_93, Tryz.f93, lp, ip, tp, k60, hge, w1, e1, e2, f1, f2, a1', a2', hb, hcc id hid, hcc2 id hid, pairsOK, clsOf, compat]

end Go.Proofs.YtobdjegooonklaaGreat
