/- Folded row by row, or all changes at once, a table comes to the same: IncrRows is true of all routes and changes, and leaves them as they were. Conditions: none. -/
import Derived.Test.YtobdjegooonklaaGreatAmRefTab6
import Derived.Test.YtobdjegooonklaaGreatRows
set_option linter.unusedSimpArgs false
set_option linter.unusedVariables false
set_option maxRecDepth 100000
set_option maxHeartbeats 1000000
namespace Go.Proofs.YtobdjegooonklaaGreat
open Go Go.AM Go.ChangeShapes Go.WideShapes Go.ChangeAt Go.RowKit

theorem awake_f8 : call E 509 10 [] [] = some (.v (.bool true), [], ⟨[], [], true⟩) := by kernel_rfl

theorem foldT_count : ∀ (L : List Inc) (l : List Route) (k m : Nat), foldT l L (k + m) = ((foldT l L k).1, (foldT l L k).2.1 + m, (foldT l L k).2.2)
  | [], l, k, m => rfl
  | i :: L, l, k, m => by
    simp only [foldT]
    split
    · rw [← foldT_count L _ (k + 1) m]
      congr 1
      omega
    · rfl
theorem foldT_app : ∀ (A B : List Inc) (l : List Route) (k : Nat), foldT l (A ++ B) k = if (foldT l A k).2.2 = 0 then foldT (foldT l A k).1 B (foldT l A k).2.1 else foldT l A k
  | [], B, l, k => by simp [foldT]
  | i :: A, B, l, k => by
    simp only [List.cons_append, foldT]
    split
    · exact foldT_app A B _ _
    · rfl

theorem c23 (n : Nat) (h : Heap) (t u : Nat) (s r : AV) (a b : List Route) (ht : h[t]? = some (.row 1 0 [.agg [s]] ⟨true, 99⟩)) (hu : h[u]? = some (.row 1 0 [.agg [r]] ⟨true, 99⟩)) (va : RV h s a) (vb : RV h r b) (ha : ∀ i ∈ a, i.ok) (hb : ∀ i ∈ b, i.ok) (la : a.length < 490) (lb : b.length < 490) :
    call E (n + 502) 23 [.ptr t 0 0 [] 0, .ptr u 0 0 [] 0] h = some (.v (.bool (decide (a = b))), h, ⟨[], [], true⟩) := by
  obtain ⟨s1, H1, e1, d1⟩ := c17 n h t s a ht va la
  obtain ⟨g1, q1⟩ := d1.old
  obtain ⟨s2, H2, e2, d2⟩ := c17 n H1 u r b (by rw [q1 u (lt_of_getElem? hu)]; exact hu) (vb.stay q1) lb
  obtain ⟨g2, q2⟩ := d2.old
  have e3 := fun m => c61 m H2 s1 s2 a b (d1.rv.stay q2) d2.rv ha hb la
  rw [call_at (E := E) (f := 23) (fn := Tryz.f23) rfl Tryz.func23 rfl (Nat.le_of_ble_eq_true rfl)]
  simp -implicitDefEqProofs only [simA, exL, nlC, newCl, args0, oneOrTup, Nat.reduceAdd, Nat.reduceLT, Nat.reduceEqDiff, Nat.reduceLeDiff, Nat.reduceMul, leafsL, idfree, idfreeL, loadE, partE, fieldAddrE, nav, navL, frz, frzL, Int.reduceBEq, Int.reduceBNe, Int.reduceLT, Int.reduceLE, Int.reduceAdd, Int.reduceSub, Int.reduceMul, Int.reduceNeg, vInt, put, putL, setParts, loopB, loopsIn, Nat.reduceSub, Nat.reducePow, Nat.reduceDiv, Nat.reduceMod, keep_23, E_masks, masks, rows_23, Tryz.f23, e1, e2, e3]

theorem foldT_le : ∀ (L : List Inc) (l : List Route) (k : Nat), (foldT l L k).2.1 ≤ k + L.length
  | [], l, k => by simp [foldT]
  | i :: L, l, k => by
    simp only [foldT]
    split
    · have := foldT_le L (doT l i).1 (k + 1)
      simp only [List.length_cons]
      omega
    · simp

theorem incrRows_true (x y z : AV) (R : List Route) (A B : List Inc) (hx : Arg 20 x (R.map Route.av)) (hy : Arg 21 y (A.map Inc.av)) (hz : Arg 21 z (B.map Inc.av)) (hR : ∀ r ∈ R, r.ok) (hA : ∀ i ∈ A, i.ok) (hB : ∀ i ∈ B, i.ok) : ∃ h e, call E 510 8 [x, y, z] [] = some (.v (.bool true), h, e) := by
  have lx : sliceLen x = some R.length := by rw [hx.len]; simp
  have ly : sliceLen y = some A.length := by rw [hy.len]; simp
  have lz : sliceLen z = some B.length := by rw [hz.len]; simp
  rw [call_at (E := E) (f := 8) (fn := Tryz.f8) rfl Tryz.func8 rfl (Nat.le_of_ble_eq_true rfl)]
  by_cases h100 : (100 : Int) < R.length
  · simp -implicitDefEqProofs only [simA, exL, nlC, newCl, args0, oneOrTup, Nat.reduceAdd, Nat.reduceLT, Nat.reduceEqDiff, Nat.reduceLeDiff, Nat.reduceMul, leafsL, idfree, idfreeL, loadE, partE, fieldAddrE, nav, navL, frz, frzL, Int.reduceBEq, Int.reduceBNe, Int.reduceLT, Int.reduceLE, Int.reduceAdd, Int.reduceSub, Int.reduceMul, Int.reduceNeg, vInt, put, putL, setParts, loopB, loopsIn, Nat.reduceSub, Nat.reducePow, Nat.reduceDiv, Nat.reduceMod, ln_36, ln_22, bs_36_0_8, ap_36_36, src_36, bs_22_0_8, ap_22_22, src_22, pe_37, pn_37, ps_37, pz_37, py_37, keep_8, E_masks, masks, rows_8, Tryz.f8, awake_f8, lx, ly, lz, h100]
    exact ⟨_, _, rfl⟩
  by_cases h50 : (50 : Int) < A.length
  · simp -implicitDefEqProofs only [simA, exL, nlC, newCl, args0, oneOrTup, Nat.reduceAdd, Nat.reduceLT, Nat.reduceEqDiff, Nat.reduceLeDiff, Nat.reduceMul, leafsL, idfree, idfreeL, loadE, partE, fieldAddrE, nav, navL, frz, frzL, Int.reduceBEq, Int.reduceBNe, Int.reduceLT, Int.reduceLE, Int.reduceAdd, Int.reduceSub, Int.reduceMul, Int.reduceNeg, vInt, put, putL, setParts, loopB, loopsIn, Nat.reduceSub, Nat.reducePow, Nat.reduceDiv, Nat.reduceMod, ln_36, ln_22, bs_36_0_8, ap_36_36, src_36, bs_22_0_8, ap_22_22, src_22, pe_37, pn_37, ps_37, pz_37, py_37, keep_8, E_masks, masks, rows_8, Tryz.f8, awake_f8, lx, ly, lz, h100, h50]
    exact ⟨_, _, rfl⟩
  by_cases h51 : (50 : Int) < B.length
  · simp -implicitDefEqProofs only [simA, exL, nlC, newCl, args0, oneOrTup, Nat.reduceAdd, Nat.reduceLT, Nat.reduceEqDiff, Nat.reduceLeDiff, Nat.reduceMul, leafsL, idfree, idfreeL, loadE, partE, fieldAddrE, nav, navL, frz, frzL, Int.reduceBEq, Int.reduceBNe, Int.reduceLT, Int.reduceLE, Int.reduceAdd, Int.reduceSub, Int.reduceMul, Int.reduceNeg, vInt, put, putL, setParts, loopB, loopsIn, Nat.reduceSub, Nat.reducePow, Nat.reduceDiv, Nat.reduceMod, ln_36, ln_22, bs_36_0_8, ap_36_36, src_36, bs_22_0_8, ap_22_22, src_22, pe_37, pn_37, ps_37, pz_37, py_37, keep_8, E_masks, masks, rows_8, Tryz.f8, awake_f8, lx, ly, lz, h100, h50, h51]
    exact ⟨_, _, rfl⟩
  obtain ⟨x1, H1, c1, a1, o1, _⟩ := copy_rt (B := []) (L := R) (by omega)
  have sx := hx.src
  have sy := hy.src
  have sz := hz.src
  simp -implicitDefEqProofs only [simA, exL, nlC, newCl, args0, oneOrTup, Nat.reduceAdd, Nat.reduceLT, Nat.reduceEqDiff, Nat.reduceLeDiff, Nat.reduceMul, leafsL, idfree, idfreeL, loadE, partE, fieldAddrE, nav, navL, frz, frzL, Int.reduceBEq, Int.reduceBNe, Int.reduceLT, Int.reduceLE, Int.reduceAdd, Int.reduceSub, Int.reduceMul, Int.reduceNeg, vInt, put, putL, setParts, loopB, loopsIn, Nat.reduceSub, Nat.reducePow, Nat.reduceDiv, Nat.reduceMod] at a1
  rcases c16 2 H1 x1 R o1.rv hR (by omega) with ⟨z1, e1⟩ | ⟨z1, hm, hst, t', H2, s', e1, T, b1, b2⟩
  · simp only [Nat.reduceAdd] at e1
    have hne : (newE R != 0) = true := by simpa using z1
    simp -implicitDefEqProofs only [simA, exL, nlC, newCl, args0, oneOrTup, Nat.reduceAdd, Nat.reduceLT, Nat.reduceEqDiff, Nat.reduceLeDiff, Nat.reduceMul, leafsL, idfree, idfreeL, loadE, partE, fieldAddrE, nav, navL, frz, frzL, Int.reduceBEq, Int.reduceBNe, Int.reduceLT, Int.reduceLE, Int.reduceAdd, Int.reduceSub, Int.reduceMul, Int.reduceNeg, vInt, put, putL, setParts, loopB, loopsIn, Nat.reduceSub, Nat.reducePow, Nat.reduceDiv, Nat.reduceMod, ln_36, ln_22, bs_36_0_8, ap_36_36, src_36, bs_22_0_8, ap_22_22, src_22, pe_37, pn_37, ps_37, pz_37, py_37, keep_8, E_masks, masks, rows_8, Tryz.f8, awake_f8, lx, ly, lz, h100, h50, h51, sx, a1, e1, hne]
    exact ⟨_, _, rfl⟩
  simp only [Nat.reduceAdd] at e1
  have hlen : (A ++ B).length < 490 := by simp; omega
  have hAB : ∀ i ∈ A ++ B, i.ok := fun i hi => by
    rcases List.mem_append.1 hi with hi | hi
    · exact hA i hi
    · exact hB i hi
  have n0 : ∀ a : Nat, ¬ a < 0 := fun a => Nat.not_lt_zero a
  have ht2 := lt_of_getElem? T.row
  have happ := foldT_app A B (sortT R) 0
  rcases c18 1 H2 t' s' (sortT R) y A T.row T.view.rv T.ok T.most hst (hy.slv H2) hA (by omega) with ⟨z2, z3, t9, H3, s9, e2, T9, g3, q3⟩ | ⟨z2, e2⟩
  · simp only [Nat.reduceAdd] at e2
    obtain ⟨y4, H4, c4, a4, o4, n4⟩ := copy_inc (B := H3) (L := A) (by omega)
    have l4 : sliceLen y4 = some A.length := by rw [o4.len]; simp
    obtain ⟨y5, H5, s5, c5, a5, hs5, o5, n5⟩ := o4.appK n4 (B.map Inc.av) (idfree_incs B)
    have a5' : apO H4 60 21 56 y4 (some (B.map Inc.av)) = some (y5, H5, s5, c5) := by
      rw [Zer, if_pos (by rw [l4]; simp; omega)]
      exact a5
    simp -implicitDefEqProofs only [simA, exL, nlC, newCl, args0, oneOrTup, Nat.reduceAdd, Nat.reduceLT, Nat.reduceEqDiff, Nat.reduceLeDiff, Nat.reduceMul, leafsL, idfree, idfreeL, loadE, partE, fieldAddrE, nav, navL, frz, frzL, Int.reduceBEq, Int.reduceBNe, Int.reduceLT, Int.reduceLE, Int.reduceAdd, Int.reduceSub, Int.reduceMul, Int.reduceNeg, vInt, put, putL, setParts, loopB, loopsIn, Nat.reduceSub, Nat.reducePow, Nat.reduceDiv, Nat.reduceMod] at a4 a5'
    rw [← List.map_append] at o5
    have q5 : ∀ j, j < H3.length → H5[j]? = H3[j]? := o5.old
    have g5 := o5.grow
    have q25 : ∀ j, j < H2.length → H5[j]? = H2[j]? := fun j hj => by rw [q5 j (by omega), q3 j hj]
    have T5 : H5[t']? = some (.row 1 0 [.agg [s']] ⟨true, 99⟩) := by rw [q25 t' ht2]; exact T.row
    have e3c := c18 1 H5 t' s' (sortT R) y5 (A ++ B) T5 (T.view.rv.stay q25) T.ok T.most hst o5.slv hAB hlen
    rw [happ, if_pos z2, z3] at e3c
    have hcnt := foldT_count B (foldT (sortT R) A 0).1 0 A.length
    rw [Nat.zero_add] at hcnt
    rw [hcnt] at e3c
    have ht9 := lt_of_getElem? T9.row
    rcases e3c with ⟨z6, z7, t12, H6, s12, e3, T12, g6, q6⟩ | ⟨z6, e3⟩
    · simp only at z6 z7
      simp only [Nat.reduceAdd] at e3
      have q36 : ∀ j, j < H3.length → H6[j]? = H3[j]? := fun j hj => by rw [q6 j (by omega), q5 j hj]
      rcases c18 1 H6 t9 s9 _ z B (by rw [q36 t9 ht9]; exact T9.row) (T9.view.rv.stay q36) T9.ok T9.most T9.sorted (hz.slv H6) hB (by omega) with ⟨z8, z9, t15, H7, s15, e4, T15, g7, q7⟩ | ⟨z8, _⟩
      · simp only [Nat.reduceAdd] at e4
        have e5 := c23 7 H7 t15 t12 s15 s12 _ _ T15.row (by rw [q7 t12 (lt_of_getElem? T12.row)]; exact T12.row) T15.view.rv (T12.view.rv.stay q7) T15.ok T12.ok T15.most T12.most
        simp only [Nat.reduceAdd, decide_true] at e5
        have hw : IntKind.i64.wrap (((A.length : Nat) : Int) + ((B.length : Nat) : Int)) = ((A ++ B).length : Nat) := by rw [wrap_i64 (by omega) (by omega)]; simp
        rcases hs5 with rfl | rfl
        · simp -implicitDefEqProofs only [simA, exL, nlC, newCl, args0, oneOrTup, Nat.reduceAdd, Nat.reduceLT, Nat.reduceEqDiff, Nat.reduceLeDiff, Nat.reduceMul, leafsL, idfree, idfreeL, loadE, partE, fieldAddrE, nav, navL, frz, frzL, Int.reduceBEq, Int.reduceBNe, Int.reduceLT, Int.reduceLE, Int.reduceAdd, Int.reduceSub, Int.reduceMul, Int.reduceNeg, vInt, put, putL, setParts, loopB, loopsIn, Nat.reduceSub, Nat.reducePow, Nat.reduceDiv, Nat.reduceMod, ln_36, ln_22, bs_36_0_8, ap_36_36, src_36, bs_22_0_8, ap_22_22, src_22, pe_37, pn_37, ps_37, pz_37, py_37, keep_8, E_masks, masks, rows_8, Tryz.f8, awake_f8, lx, ly, lz, h100, h50, h51, sx, sy, sz, a1, a4, a5', e1, e2, e3, e4, e5, eqb_4, hw, n0]
          exact ⟨_, _, rfl⟩
        · simp -implicitDefEqProofs only [simA, exL, nlC, newCl, args0, oneOrTup, Nat.reduceAdd, Nat.reduceLT, Nat.reduceEqDiff, Nat.reduceLeDiff, Nat.reduceMul, leafsL, idfree, idfreeL, loadE, partE, fieldAddrE, nav, navL, frz, frzL, Int.reduceBEq, Int.reduceBNe, Int.reduceLT, Int.reduceLE, Int.reduceAdd, Int.reduceSub, Int.reduceMul, Int.reduceNeg, vInt, put, putL, setParts, loopB, loopsIn, Nat.reduceSub, Nat.reducePow, Nat.reduceDiv, Nat.reduceMod, ln_36, ln_22, bs_36_0_8, ap_36_36, src_36, bs_22_0_8, ap_22_22, src_22, pe_37, pn_37, ps_37, pz_37, py_37, keep_8, E_masks, masks, rows_8, Tryz.f8, awake_f8, lx, ly, lz, h100, h50, h51, sx, sy, sz, a1, a4, a5', e1, e2, e3, e4, e5, eqb_4, hw, n0]
          exact ⟨_, _, rfl⟩
      · exact (z8 z6).elim
    · simp only at z6
      simp only [Nat.reduceAdd] at e3
      rcases c18 1 H5 t9 s9 _ z B (by rw [q5 t9 ht9]; exact T9.row) (T9.view.rv.stay q5) T9.ok T9.most T9.sorted (hz.slv H5) hB (by omega) with ⟨z8, _⟩ | ⟨z8, e4⟩
      · exact (z6 z8).elim
      · simp only [Nat.reduceAdd] at e4
        have hle := foldT_le B (foldT (sortT R) A 0).1 0
        have hw : IntKind.i64.wrap (((A.length : Nat) : Int) + (((foldT (foldT (sortT R) A 0).1 B 0).2.1 : Nat) : Int)) = (((foldT (foldT (sortT R) A 0).1 B 0).2.1 + A.length : Nat) : Int) := by rw [wrap_i64 (by omega) (by omega)]; omega
        rcases hs5 with rfl | rfl
        · simp -implicitDefEqProofs only [simA, exL, nlC, newCl, args0, oneOrTup, Nat.reduceAdd, Nat.reduceLT, Nat.reduceEqDiff, Nat.reduceLeDiff, Nat.reduceMul, leafsL, idfree, idfreeL, loadE, partE, fieldAddrE, nav, navL, frz, frzL, Int.reduceBEq, Int.reduceBNe, Int.reduceLT, Int.reduceLE, Int.reduceAdd, Int.reduceSub, Int.reduceMul, Int.reduceNeg, vInt, put, putL, setParts, loopB, loopsIn, Nat.reduceSub, Nat.reducePow, Nat.reduceDiv, Nat.reduceMod, ln_36, ln_22, bs_36_0_8, ap_36_36, src_36, bs_22_0_8, ap_22_22, src_22, pe_37, pn_37, ps_37, pz_37, py_37, keep_8, E_masks, masks, rows_8, Tryz.f8, awake_f8, lx, ly, lz, h100, h50, h51, sx, sy, sz, a1, a4, a5', e1, e2, e3, e4, eqb_4, hw, n0]
          exact ⟨_, _, rfl⟩
        · simp -implicitDefEqProofs only [simA, exL, nlC, newCl, args0, oneOrTup, Nat.reduceAdd, Nat.reduceLT, Nat.reduceEqDiff, Nat.reduceLeDiff, Nat.reduceMul, leafsL, idfree, idfreeL, loadE, partE, fieldAddrE, nav, navL, frz, frzL, Int.reduceBEq, Int.reduceBNe, Int.reduceLT, Int.reduceLE, Int.reduceAdd, Int.reduceSub, Int.reduceMul, Int.reduceNeg, vInt, put, putL, setParts, loopB, loopsIn, Nat.reduceSub, Nat.reducePow, Nat.reduceDiv, Nat.reduceMod, ln_36, ln_22, bs_36_0_8, ap_36_36, src_36, bs_22_0_8, ap_22_22, src_22, pe_37, pn_37, ps_37, pz_37, py_37, keep_8, E_masks, masks, rows_8, Tryz.f8, awake_f8, lx, ly, lz, h100, h50, h51, sx, sy, sz, a1, a4, a5', e1, e2, e3, e4, eqb_4, hw, n0]
          exact ⟨_, _, rfl⟩
  · simp only [Nat.reduceAdd] at e2
    have hne : ((foldT (sortT R) A 0).2.2 != 0) = true := by simpa using z2
    obtain ⟨y4, H4, c4, a4, o4, n4⟩ := copy_inc (B := H2) (L := A) (by omega)
    have l4 : sliceLen y4 = some A.length := by rw [o4.len]; simp
    obtain ⟨y5, H5, s5, c5, a5, hs5, o5, n5⟩ := o4.appK n4 (B.map Inc.av) (idfree_incs B)
    have a5' : apO H4 60 21 56 y4 (some (B.map Inc.av)) = some (y5, H5, s5, c5) := by
      rw [Zer, if_pos (by rw [l4]; simp; omega)]
      exact a5
    simp -implicitDefEqProofs only [simA, exL, nlC, newCl, args0, oneOrTup, Nat.reduceAdd, Nat.reduceLT, Nat.reduceEqDiff, Nat.reduceLeDiff, Nat.reduceMul, leafsL, idfree, idfreeL, loadE, partE, fieldAddrE, nav, navL, frz, frzL, Int.reduceBEq, Int.reduceBNe, Int.reduceLT, Int.reduceLE, Int.reduceAdd, Int.reduceSub, Int.reduceMul, Int.reduceNeg, vInt, put, putL, setParts, loopB, loopsIn, Nat.reduceSub, Nat.reducePow, Nat.reduceDiv, Nat.reduceMod] at a4 a5'
    rw [← List.map_append] at o5
    have q5 : ∀ j, j < H2.length → H5[j]? = H2[j]? := o5.old
    have T5 : H5[t']? = some (.row 1 0 [.agg [s']] ⟨true, 99⟩) := by rw [q5 t' ht2]; exact T.row
    have e3c := c18 1 H5 t' s' (sortT R) y5 (A ++ B) T5 (T.view.rv.stay q5) T.ok T.most hst o5.slv hAB hlen
    rw [happ, if_neg z2] at e3c
    rcases e3c with ⟨z6, _⟩ | ⟨_, e3⟩
    · exact (z2 z6).elim
    · simp only [Nat.reduceAdd] at e3
      rcases hs5 with rfl | rfl
      · simp -implicitDefEqProofs only [simA, exL, nlC, newCl, args0, oneOrTup, Nat.reduceAdd, Nat.reduceLT, Nat.reduceEqDiff, Nat.reduceLeDiff, Nat.reduceMul, leafsL, idfree, idfreeL, loadE, partE, fieldAddrE, nav, navL, frz, frzL, Int.reduceBEq, Int.reduceBNe, Int.reduceLT, Int.reduceLE, Int.reduceAdd, Int.reduceSub, Int.reduceMul, Int.reduceNeg, vInt, put, putL, setParts, loopB, loopsIn, Nat.reduceSub, Nat.reducePow, Nat.reduceDiv, Nat.reduceMod, ln_36, ln_22, bs_36_0_8, ap_36_36, src_36, bs_22_0_8, ap_22_22, src_22, pe_37, pn_37, ps_37, pz_37, py_37, keep_8, E_masks, masks, rows_8, Tryz.f8, awake_f8, lx, ly, lz, h100, h50, h51, sx, sy, sz, a1, a4, a5', e1, e2, e3, eqb_4, hne, n0]
        exact ⟨_, _, rfl⟩
      · simp -implicitDefEqProofs only [simA, exL, nlC, newCl, args0, oneOrTup, Nat.reduceAdd, Nat.reduceLT, Nat.reduceEqDiff, Nat.reduceLeDiff, Nat.reduceMul, leafsL, idfree, idfreeL, loadE, partE, fieldAddrE, nav, navL, frz, frzL, Int.reduceBEq, Int.reduceBNe, Int.reduceLT, Int.reduceLE, Int.reduceAdd, Int.reduceSub, Int.reduceMul, Int.reduceNeg, vInt, put, putL, setParts, loopB, loopsIn, Nat.reduceSub, Nat.reducePow, Nat.reduceDiv, Nat.reduceMod, ln_36, ln_22, bs_36_0_8, ap_36_36, src_36, bs_22_0_8, ap_22_22, src_22, pe_37, pn_37, ps_37, pz_37, py_37, keep_8, E_masks, masks, rows_8, Tryz.f8, awake_f8, lx, ly, lz, h100, h50, h51, sx, sy, sz, a1, a4, a5', e1, e2, e3, eqb_4, hne, n0]
        exact ⟨_, _, rfl⟩

end Go.Proofs.YtobdjegooonklaaGreat

set_option linter.unusedSimpArgs false
set_option linter.unusedVariables false
namespace Go.Proofs.YtobdjegooonklaaGreat
open Go Go.AM Go.ChangeShapes Go.WideShapes Go.ChangeAt Go.RowKit

theorem own : ownKnob Tryz.prog.godebug = none := by kernel_rfl
theorem laidOut : laidOutB Tryz.prog = true := by kernel_rfl

set_option maxRecDepth 100000 in
theorem incrRows_lifted (os : Os) (started : os.Started) (H : Type) (enc : TypeId × Value → H) :
    ReturnsInHanded {} Tryz.checked os 8 .any (Rows.incrRowsSpec.pre6 enc Tryz.prog Tryz.f8 Rows.incrRowsRow.domain false) (Rows.incrRowsSpec.post enc Tryz.prog Tryz.f8 false true false false) := by
  refine returnsInHanded_of_change (C := Tryz.checked) own started (by kernel_rfl) Tryz.func8
    (ChangeSpec.witness6 (enc := enc) (C := Tryz.checked) false ⟨#[], #[.slice none 0 0, .slice none 0 0, .slice none 0 0], []⟩ 8 (by kernel_rfl) (by kernel_rfl) (by kernel_rfl) (by kernel_rfl)) ?_
  intro W base args ds gs before hval0 hW hcnd _
  have hval : ∀ (j : Nat) t v, Tryz.f8.params[j]? = some t → args[j]? = some v → Value.okWide Tryz.prog W .any base t v := hval0
  have hW' := hW
  obtain ⟨p, q, hA0, hV, rfl, hfz, hnd⟩ := hW
  have hA : DataW.TrodAll enc Tryz.prog W 0 (fun _ => true) true Tryz.f8.params.toList args.toList ds p := hA0
  rw [Tryz.params8] at hA hval
  obtain ⟨v0, v1, v2, d0, d1, d2, p0, p1, p2, rfl, rfl, rfl, h0, h1, h2⟩ := trodAll_three hA
  obtain ⟨rfl, rfl⟩ := trodVars_none hV
  obtain ⟨x, hx, hcx⟩ := arg_slice Tryz.underlying36 c58 (hval 0 36 v0 rfl rfl) h0 (fun _ _ _ h => route_elem h)
  obtain ⟨y, hy, hcy⟩ := arg_slice Tryz.underlying22 c60 (hval 1 22 v1 rfl rfl) h1 (fun _ _ _ h => inc_elem h)
  obtain ⟨z, hz, hcz⟩ := arg_slice Tryz.underlying22 c60 (hval 2 22 v2 rfl rfl) h2 (fun _ _ _ h => inc_elem h)
  obtain ⟨R, hR, aR⟩ := arg_routes hcx
  obtain ⟨L, hL, aL⟩ := arg_incs hcy
  obtain ⟨M, hM, aM⟩ := arg_incs hcz
  obtain ⟨h, e, hcall⟩ := incrRows_true x y z R L M aR aL aM hR hL hM
  obtain ⟨c, hc⟩ : ∃ c, Tryz.f8.body = some c := ⟨_, rfl⟩
  refine (law_calls e_ok (f := 8) Tryz.func8 hc rfl hcall (vs := [v0, v1, v2]) (by simp only [VL]; exact ⟨v0, [v1, v2], hx, ⟨v1, [v2], hy, ⟨v2, [], hz, rfl, rfl⟩, rfl⟩, rfl⟩)).mono fun e W' ⟨he, hb⟩ => ?_
  subst he
  exact ⟨_, rfl, law_post laidOut rfl rfl ut4 (by kernel_rfl) hW' rfl hb⟩

theorem incrRows_holds : Rows.IncrRowsSaid :=
  OpenClaim.holds_of_wide 8 Tryz.f8 rfl rfl rfl rfl rfl rfl rfl ⟨rfl, rfl, rfl, rfl, rfl⟩ rfl rfl rfl rfl rfl (by kernel_rfl) Tryz.func8 (by kernel_rfl)
    (of_decide_eq_true (by kernel_rfl)) (by unfold Func.isWrapper; first | (rw [if_pos (by decide +kernel)]; kernel_rfl) | (rw [if_neg (by decide +kernel)]; exact ⟨rfl, rfl⟩))
    (fun os started H enc _ => incrRows_lifted os started H enc)

end Go.Proofs.YtobdjegooonklaaGreat
