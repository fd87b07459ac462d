/- Any changes are folded into a table as the document says: IncrFolds is true of all routes and changes, and leaves them as they were. Conditions: none. -/
import Derived.Test.YtobdjegooonklaaGreatAmRefTab6
import Derived.Test.YtobdjegooonklaaGreatRows
set_option linter.unusedSimpArgs false
set_option linter.unusedVariables false
set_option maxRecDepth 100000
set_option maxHeartbeats 1000000
namespace Go.Proofs.YtobdjegooonklaaGreat
open Go Go.AM Go.ChangeShapes Go.WideShapes Go.ChangeAt Go.RowKit

theorem awake_f5 : call E 509 10 [] [] = some (.v (.bool true), [], ⟨[], [], true⟩) := by kernel_rfl

theorem incrFolds_true (x y : AV) (R : List Route) (L : List Inc) (hx : Arg 20 x (R.map Route.av)) (hy : Arg 21 y (L.map Inc.av)) (hR : ∀ r ∈ R, r.ok) (hL : ∀ i ∈ L, i.ok) : ∃ h e, call E 510 5 [x, y] [] = some (.v (.bool true), h, e) := by
  have lx : sliceLen x = some R.length := by rw [hx.len]; simp
  have ly : sliceLen y = some L.length := by rw [hy.len]; simp
  rw [call_at (E := E) (f := 5) (fn := Tryz.f5) rfl Tryz.func5 rfl (Nat.le_of_ble_eq_true rfl)]
  by_cases h300 : (300 : Int) < R.length
  · simp -implicitDefEqProofs only [simA, exL, nlC, newCl, args0, oneOrTup, Nat.reduceAdd, Nat.reduceLT, Nat.reduceEqDiff, Nat.reduceLeDiff, Nat.reduceMul, leafsL, idfree, idfreeL, loadE, partE, fieldAddrE, nav, navL, frz, frzL, Int.reduceBEq, Int.reduceBNe, Int.reduceLT, Int.reduceLE, Int.reduceAdd, Int.reduceSub, Int.reduceMul, Int.reduceNeg, vInt, put, putL, setParts, loopB, loopsIn, Nat.reduceSub, Nat.reducePow, Nat.reduceDiv, Nat.reduceMod, ln_36, ln_22, bs_36_0_5, ap_36_36, src_36, bs_22_0_5, ap_22_22, src_22, pe_37, pn_37, ps_37, pz_37, py_37, keep_5, E_masks, masks, rows_5, Tryz.f5, awake_f5, lx, ly, h300]
    exact ⟨_, _, rfl⟩
  · by_cases h200 : (200 : Int) < L.length
    · simp -implicitDefEqProofs only [simA, exL, nlC, newCl, args0, oneOrTup, Nat.reduceAdd, Nat.reduceLT, Nat.reduceEqDiff, Nat.reduceLeDiff, Nat.reduceMul, leafsL, idfree, idfreeL, loadE, partE, fieldAddrE, nav, navL, frz, frzL, Int.reduceBEq, Int.reduceBNe, Int.reduceLT, Int.reduceLE, Int.reduceAdd, Int.reduceSub, Int.reduceMul, Int.reduceNeg, vInt, put, putL, setParts, loopB, loopsIn, Nat.reduceSub, Nat.reducePow, Nat.reduceDiv, Nat.reduceMod, ln_36, ln_22, bs_36_0_5, ap_36_36, src_36, bs_22_0_5, ap_22_22, src_22, pe_37, pn_37, ps_37, pz_37, py_37, keep_5, E_masks, masks, rows_5, Tryz.f5, awake_f5, lx, ly, h300, h200]
      exact ⟨_, _, rfl⟩
    · obtain ⟨x1, H1, c1, a1, _, o1, _⟩ := OutG.app0 (B := []) (k := 20) (ty := 58) (R.map Route.av)
      have sx := hx.src
      have sy := hy.src
      have a1' : apO [] 58 20 48 (.lit 20 true []) (some (R.map Route.av)) = some (x1, H1, none, c1) := by
        rw [Zer, if_pos (by simp [sliceLen]; omega)]
        exact a1
      simp -implicitDefEqProofs only [simA, exL, nlC, newCl, args0, oneOrTup, Nat.reduceAdd, Nat.reduceLT, Nat.reduceEqDiff, Nat.reduceLeDiff, Nat.reduceMul, leafsL, idfree, idfreeL, loadE, partE, fieldAddrE, nav, navL, frz, frzL, Int.reduceBEq, Int.reduceBNe, Int.reduceLT, Int.reduceLE, Int.reduceAdd, Int.reduceSub, Int.reduceMul, Int.reduceNeg, vInt, put, putL, setParts, loopB, loopsIn, Nat.reduceSub, Nat.reducePow, Nat.reduceDiv, Nat.reduceMod] at a1'
      rcases c16 2 H1 x1 R o1.rv hR (by omega) with ⟨z1, e1⟩ | ⟨z1, hm, hst, t', H2, s', e1, T, b1, b2⟩
      · simp only [Nat.reduceAdd] at e1
        have hne : (newE R != 0) = true := by simpa using z1
        simp -implicitDefEqProofs only [simA, exL, nlC, newCl, args0, oneOrTup, Nat.reduceAdd, Nat.reduceLT, Nat.reduceEqDiff, Nat.reduceLeDiff, Nat.reduceMul, leafsL, idfree, idfreeL, loadE, partE, fieldAddrE, nav, navL, frz, frzL, Int.reduceBEq, Int.reduceBNe, Int.reduceLT, Int.reduceLE, Int.reduceAdd, Int.reduceSub, Int.reduceMul, Int.reduceNeg, vInt, put, putL, setParts, loopB, loopsIn, Nat.reduceSub, Nat.reducePow, Nat.reduceDiv, Nat.reduceMod, ln_36, ln_22, bs_36_0_5, ap_36_36, src_36, bs_22_0_5, ap_22_22, src_22, pe_37, pn_37, ps_37, pz_37, py_37, keep_5, E_masks, masks, rows_5, Tryz.f5, awake_f5, lx, ly, h300, h200, sx, a1', e1, hne]
        exact ⟨_, _, rfl⟩
      · simp only [Nat.reduceAdd] at e1
        obtain ⟨s3, H3, e2, d3⟩ := c17 8 H2 t' s' (sortT R) T.row T.view.rv T.most
        obtain ⟨y4, H4, c4, a4, _, o4, _⟩ := OutG.app0 (B := H3) (k := 21) (ty := 60) (L.map Inc.av)
        have a4' : apO H3 60 21 56 (.lit 21 true []) (some (L.map Inc.av)) = some (y4, H4, none, c4) := by
          rw [Zer, if_pos (by simp [sliceLen]; omega)]
          exact a4
        simp -implicitDefEqProofs only [simA, exL, nlC, newCl, args0, oneOrTup, Nat.reduceAdd, Nat.reduceLT, Nat.reduceEqDiff, Nat.reduceLeDiff, Nat.reduceMul, leafsL, idfree, idfreeL, loadE, partE, fieldAddrE, nav, navL, frz, frzL, Int.reduceBEq, Int.reduceBNe, Int.reduceLT, Int.reduceLE, Int.reduceAdd, Int.reduceSub, Int.reduceMul, Int.reduceNeg, vInt, put, putL, setParts, loopB, loopsIn, Nat.reduceSub, Nat.reducePow, Nat.reduceDiv, Nat.reduceMod] at a4'
        obtain ⟨g3, q3⟩ := d3.old
        have q4 := o4.old
        have g4 := o4.grow
        have q24 : ∀ j, j < H2.length → H4[j]? = H2[j]? := fun j hj => by rw [q4 j (by omega), q3 j hj]
        have ht' := lt_of_getElem? T.row
        have tab : TabL (sortT R) := ⟨T.ok, hst, by rw [sortT_len hR]; exact hm⟩
        rcases c18 1 H4 t' s' (sortT R) y4 L (by rw [q24 t' ht']; exact T.row) (T.view.rv.stay q24) T.ok T.most hst o4.slv hL (by omega) with ⟨z2, z3, t8, H5, s5, e3, T5, b3, b4⟩ | ⟨z2, e3⟩
        · simp only [Nat.reduceAdd] at e3
          have q35 : ∀ j, j < H3.length → H5[j]? = H3[j]? := fun j hj => by rw [b4 j (by omega), q4 j hj]
          rcases c19 4 H5 s3 (sortT R) y L tab (d3.rv.stay q35) (hy.slv H5) hL (by omega) with ⟨z4, z5, y5, e5, v5⟩ | ⟨z4, _⟩
          · simp only [Nat.reduceAdd] at e5
            obtain ⟨s6, H6, e6, d6⟩ := c17 8 H5 t8 s5 _ T5.row T5.view.rv T5.most
            obtain ⟨g6, q6⟩ := d6.old
            have e7 := c20 9 H6 s6 y5 _ _ d6.rv (v5.stay q6) T5.ok T5.ok T5.most
            have q26 : ∀ j, j < H2.length → H6[j]? = H2[j]? := fun j hj => by rw [q6 j (by omega), b4 j (by omega), q24 j hj]
            obtain ⟨s7, H7, e8, d7⟩ := c17 8 H6 t' s' (sortT R) (by rw [q26 t' ht']; exact T.row) (T.view.rv.stay q26) T.most
            obtain ⟨g7, q7⟩ := d7.old
            have q37 : ∀ j, j < H3.length → H7[j]? = H3[j]? := fun j hj => by rw [q7 j (by omega), q6 j (by omega), q35 j hj]
            have e9 := c20 9 H7 s7 s3 _ _ d7.rv (d3.rv.stay q37) T.ok T.ok T.most
            have hd : ∀ l : List Route, decide (l = l) = true := fun l => by simp
            simp only [hd, Nat.reduceAdd] at e2 e6 e7 e8 e9
            simp -implicitDefEqProofs only [simA, exL, nlC, newCl, args0, oneOrTup, Nat.reduceAdd, Nat.reduceLT, Nat.reduceEqDiff, Nat.reduceLeDiff, Nat.reduceMul, leafsL, idfree, idfreeL, loadE, partE, fieldAddrE, nav, navL, frz, frzL, Int.reduceBEq, Int.reduceBNe, Int.reduceLT, Int.reduceLE, Int.reduceAdd, Int.reduceSub, Int.reduceMul, Int.reduceNeg, vInt, put, putL, setParts, loopB, loopsIn, Nat.reduceSub, Nat.reducePow, Nat.reduceDiv, Nat.reduceMod, ln_36, ln_22, bs_36_0_5, ap_36_36, src_36, bs_22_0_5, ap_22_22, src_22, pe_37, pn_37, ps_37, pz_37, py_37, keep_5, E_masks, masks, rows_5, Tryz.f5, awake_f5, lx, ly, h300, h200, sx, sy, a1', a4', e1, e2, e3, e5, e6, e7, e8, e9, eqb_4]
            exact ⟨_, _, rfl⟩
          · exact (z4 z2).elim
        · simp only [Nat.reduceAdd] at e3
          rcases c19 4 H4 s3 (sortT R) y L tab (d3.rv.stay q4) (hy.slv H4) hL (by omega) with ⟨z4, _⟩ | ⟨z4, e5⟩
          · exact (z2 z4).elim
          · simp only [Nat.reduceAdd] at e5
            obtain ⟨s7, H7, e8, d7⟩ := c17 8 H4 t' s' (sortT R) (by rw [q24 t' ht']; exact T.row) (T.view.rv.stay q24) T.most
            obtain ⟨g7, q7⟩ := d7.old
            have q37 : ∀ j, j < H3.length → H7[j]? = H3[j]? := fun j hj => by rw [q7 j (by omega), q4 j hj]
            have e9 := c20 9 H7 s7 s3 _ _ d7.rv (d3.rv.stay q37) T.ok T.ok T.most
            have hd : ∀ l : List Route, decide (l = l) = true := fun l => by simp
            have hz : ((foldT (sortT R) L 0).2.2 == 0) = false := by simpa using z2
            simp only [hd, Nat.reduceAdd] at e2 e8 e9
            simp -implicitDefEqProofs only [simA, exL, nlC, newCl, args0, oneOrTup, Nat.reduceAdd, Nat.reduceLT, Nat.reduceEqDiff, Nat.reduceLeDiff, Nat.reduceMul, leafsL, idfree, idfreeL, loadE, partE, fieldAddrE, nav, navL, frz, frzL, Int.reduceBEq, Int.reduceBNe, Int.reduceLT, Int.reduceLE, Int.reduceAdd, Int.reduceSub, Int.reduceMul, Int.reduceNeg, vInt, put, putL, setParts, loopB, loopsIn, Nat.reduceSub, Nat.reducePow, Nat.reduceDiv, Nat.reduceMod, ln_36, ln_22, bs_36_0_5, ap_36_36, src_36, bs_22_0_5, ap_22_22, src_22, pe_37, pn_37, ps_37, pz_37, py_37, keep_5, E_masks, masks, rows_5, Tryz.f5, awake_f5, lx, ly, h300, h200, sx, sy, a1', a4', e1, e2, e3, e5, e8, e9, eqb_4, hz]
            exact ⟨_, _, rfl⟩

end Go.Proofs.YtobdjegooonklaaGreat

set_option linter.unusedSimpArgs false
set_option linter.unusedVariables false
namespace Go.Proofs.YtobdjegooonklaaGreat
open Go Go.AM Go.ChangeShapes Go.WideShapes Go.ChangeAt Go.RowKit

theorem own : ownKnob Tryz.prog.godebug = none := by kernel_rfl
theorem laidOut : laidOutB Tryz.prog = true := by kernel_rfl

set_option maxRecDepth 100000 in
theorem incrFolds_lifted (os : Os) (started : os.Started) (H : Type) (enc : TypeId × Value → H) :
    ReturnsInHanded {} Tryz.checked os 5 .any (Rows.incrFoldsSpec.pre6 enc Tryz.prog Tryz.f5 Rows.incrFoldsRow.domain false) (Rows.incrFoldsSpec.post enc Tryz.prog Tryz.f5 false true false false) := by
  refine returnsInHanded_of_change (C := Tryz.checked) own started (by kernel_rfl) Tryz.func5
    (ChangeSpec.witness6 (enc := enc) (C := Tryz.checked) false ⟨#[], #[.slice none 0 0, .slice none 0 0], []⟩ 8 (by kernel_rfl) (by kernel_rfl) (by kernel_rfl) (by kernel_rfl)) ?_
  intro W base args ds gs before hval0 hW hcnd _
  have hval : ∀ (j : Nat) t v, Tryz.f5.params[j]? = some t → args[j]? = some v → Value.okWide Tryz.prog W .any base t v := hval0
  have hW' := hW
  obtain ⟨p, q, hA0, hV, rfl, hfz, hnd⟩ := hW
  have hA : DataW.TrodAll enc Tryz.prog W 0 (fun _ => true) true Tryz.f5.params.toList args.toList ds p := hA0
  rw [Tryz.params5] at hA hval
  obtain ⟨v0, v1, d0, d1, p0, p1, rfl, rfl, rfl, h0, h1⟩ := trodAll_two hA
  obtain ⟨rfl, rfl⟩ := trodVars_none hV
  obtain ⟨x, hx, hcx⟩ := arg_slice Tryz.underlying36 c58 (hval 0 36 v0 rfl rfl) h0 (fun _ _ _ h => route_elem h)
  obtain ⟨y, hy, hcy⟩ := arg_slice Tryz.underlying22 c60 (hval 1 22 v1 rfl rfl) h1 (fun _ _ _ h => inc_elem h)
  obtain ⟨R, hR, aR⟩ := arg_routes hcx
  obtain ⟨L, hL, aL⟩ := arg_incs hcy
  obtain ⟨h, e, hcall⟩ := incrFolds_true x y R L aR aL hR hL
  obtain ⟨c, hc⟩ : ∃ c, Tryz.f5.body = some c := ⟨_, rfl⟩
  refine (law_calls e_ok (f := 5) Tryz.func5 hc rfl hcall (vs := [v0, v1]) (by simp only [VL]; exact ⟨v0, [v1], hx, ⟨v1, [], hy, rfl, rfl⟩, rfl⟩)).mono fun e W' ⟨he, hb⟩ => ?_
  subst he
  exact ⟨_, rfl, law_post laidOut rfl rfl ut4 (by kernel_rfl) hW' rfl hb⟩

theorem incrFolds_holds : Rows.IncrFoldsSaid :=
  OpenClaim.holds_of_wide 5 Tryz.f5 rfl rfl rfl rfl rfl rfl rfl ⟨rfl, rfl, rfl, rfl, rfl⟩ rfl rfl rfl rfl rfl (by kernel_rfl) Tryz.func5 (by kernel_rfl)
    (of_decide_eq_true (by kernel_rfl)) (by unfold Func.isWrapper; first | (rw [if_pos (by decide +kernel)]; kernel_rfl) | (rw [if_neg (by decide +kernel)]; exact ⟨rfl, rfl⟩))
    (fun os started H enc _ => incrFolds_lifted os started H enc)

end Go.Proofs.YtobdjegooonklaaGreat
