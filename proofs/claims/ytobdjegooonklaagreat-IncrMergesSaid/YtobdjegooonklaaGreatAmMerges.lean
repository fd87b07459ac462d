/- The stage's theorem: where two rows can be folded one behind the other, their merged row can, and makes the same; any two are merged as the document says, or can't be: IncrMerges is true of all routes and changes, and leaves them as they were. Conditions: none. -/
import Derived.Test.YtobdjegooonklaaGreatAmMrg2
import Derived.Test.YtobdjegooonklaaGreatAmSame
import Derived.Test.YtobdjegooonklaaGreatRows
set_option linter.unusedSimpArgs false
set_option linter.unusedVariables false
set_option maxRecDepth 100000
set_option maxHeartbeats 1000000
namespace Go.Proofs.YtobdjegooonklaaGreat
open Go Go.AM Go.ChangeShapes Go.WideShapes Go.ChangeAt Go.RowKit

theorem awake_f7 : call E 509 10 [] [] = some (.v (.bool true), [], ⟨[], [], true⟩) := by kernel_rfl

theorem c18n (h : Heap) (x : AV) : call E (509) 18 [.v (.pointer none), x] h = some (.tup [.v (.pointer none), .v (.int .i64 0), .v (.int .i64 10)], h, ⟨[], [], true⟩) := by
  kernel_rfl

theorem incrMerges_true (x y z : AV) (R : List Route) (A B : List Inc) (hx : Arg 20 x (R.map Route.av)) (hy : Arg 21 y (A.map Inc.av)) (hz : Arg 21 z (B.map Inc.av)) (hR : ∀ r ∈ R, r.ok) (hA : ∀ i ∈ A, i.ok) (hB : ∀ i ∈ B, i.ok) : ∃ h e, call E 510 7 [x, y, z] [] = some (.v (.bool true), h, e) := by
  have lx : sliceLen x = some R.length := by rw [hx.len]; simp
  have ly : sliceLen y = some A.length := by rw [hy.len]; simp
  have lz : sliceLen z = some B.length := by rw [hz.len]; simp
  rw [call_at (E := E) (f := 7) (fn := Tryz.f7) rfl Tryz.func7 rfl (Nat.le_of_ble_eq_true rfl)]
  by_cases h100 : (100 : Int) < R.length
  · simp -implicitDefEqProofs only [simA, Nat.reduceAdd, Nat.reduceLT, Nat.reduceEqDiff, Nat.reduceLeDiff, Nat.reduceMul, Int.reduceBEq, Int.reduceBNe, Int.reduceLT, Int.reduceLE, Int.reduceAdd, Int.reduceSub, Int.reduceMul, Int.reduceNeg, Nat.reduceSub, Nat.reducePow, Nat.reduceDiv, Nat.reduceMod, ln_36, ln_22, bs_22_0_7, ap_22_22, src_22, bs_36_0_7, ap_36_36, src_36, keep_7, E_masks, masks, rows_7, Tryz.f7, awake_f7, lx, ly, lz, h100]
    exact ⟨_, _, rfl⟩
  by_cases h101 : (100 : Int) < A.length
  · simp -implicitDefEqProofs only [simA, Nat.reduceAdd, Nat.reduceLT, Nat.reduceEqDiff, Nat.reduceLeDiff, Nat.reduceMul, Int.reduceBEq, Int.reduceBNe, Int.reduceLT, Int.reduceLE, Int.reduceAdd, Int.reduceSub, Int.reduceMul, Int.reduceNeg, Nat.reduceSub, Nat.reducePow, Nat.reduceDiv, Nat.reduceMod, ln_36, ln_22, bs_22_0_7, ap_22_22, src_22, bs_36_0_7, ap_36_36, src_36, keep_7, E_masks, masks, rows_7, Tryz.f7, awake_f7, lx, ly, lz, h100, h101]
    exact ⟨_, _, rfl⟩
  by_cases h90 : (90 : Int) < B.length
  · simp -implicitDefEqProofs only [simA, Nat.reduceAdd, Nat.reduceLT, Nat.reduceEqDiff, Nat.reduceLeDiff, Nat.reduceMul, Int.reduceBEq, Int.reduceBNe, Int.reduceLT, Int.reduceLE, Int.reduceAdd, Int.reduceSub, Int.reduceMul, Int.reduceNeg, Nat.reduceSub, Nat.reducePow, Nat.reduceDiv, Nat.reduceMod, ln_36, ln_22, bs_22_0_7, ap_22_22, src_22, bs_36_0_7, ap_36_36, src_36, keep_7, E_masks, masks, rows_7, Tryz.f7, awake_f7, lx, ly, lz, h100, h101, h90]
    exact ⟨_, _, rfl⟩
  have hAB : (A ++ B).length < 240 := by simp; omega
  have sx := hx.src
  have sy := hy.src
  have sz := hz.src
  obtain ⟨y1, H1, c1, a1, o1, n1⟩ := copy_inc (B := []) (L := A) (by omega)
  obtain ⟨z2, H2, c2, a2, o2, n2⟩ := copy_inc (B := H1) (L := B) (by omega)
  have q12 := o2.old
  have e21 := c21 1 H2 y1 z2 A B (o1.slv.stay q12) o2.slv hA hB (by omega)
  have e22 := c22 5 H2 y z A B hy hz hA hB hAB
  rw [← merge_ref hA hB] at e22
  obtain ⟨o, ho⟩ : ∃ o, mergeP A B = o := ⟨_, rfl⟩
  obtain ⟨ok0, len0⟩ := mergeP_ok hA hB
  rw [ho] at e21 e22 ok0 len0
  have sv := fun H => mrgV_slv H o
  have lv := mrgV_len o
  have e14 := fun H => c14 9 H (mrgV o) (mrgV o) (o.getD []) (o.getD []) (sv H) (sv H) ok0 ok0 (by omega)
  obtain ⟨x3, H3, c3, a3, o3, _⟩ := copy_rt (B := H2) (L := R) (by omega)
  simp -implicitDefEqProofs only [simA, Nat.reduceAdd, Nat.reduceLT, Nat.reduceEqDiff, Nat.reduceLeDiff, Nat.reduceMul, Int.reduceBEq, Int.reduceBNe, Int.reduceLT, Int.reduceLE, Int.reduceAdd, Int.reduceSub, Int.reduceMul, Int.reduceNeg, Nat.reduceSub, Nat.reducePow, Nat.reduceDiv, Nat.reduceMod] at a1 a2 a3
  simp only [Nat.reduceAdd, decide_true] at e14 e21 e22
  have hd1 : (mrgE o == 0) = o.isSome := by cases o <;> rfl
  have hd2 : o.isSome = false → (mrgE o != 1) = false := by cases o <;> intro h <;> first | rfl | cases h
  have tt : (true != true) = false := rfl
  have ff : (false != false) = false := rfl
  have n0 : ∀ a : Nat, ¬ a < 0 := fun a => Nat.not_lt_zero a
  rcases c16 2 H3 x3 R o3.rv hR (by omega) with ⟨z1, e1⟩ | ⟨z1, hm, hst, t', H4, s', e1, T, b1, b2⟩
  · simp only [Nat.reduceAdd] at e1
    have hne : (newE R != 0) = true := by simpa using z1
    cases hs : o.isSome with
    | true =>
      rw [hs] at hd1 e22
      simp -implicitDefEqProofs only [simA, Nat.reduceAdd, Nat.reduceLT, Nat.reduceEqDiff, Nat.reduceLeDiff, Nat.reduceMul, Int.reduceBEq, Int.reduceBNe, Int.reduceLT, Int.reduceLE, Int.reduceAdd, Int.reduceSub, Int.reduceMul, Int.reduceNeg, Nat.reduceSub, Nat.reducePow, Nat.reduceDiv, Nat.reduceMod, ln_36, ln_22, bs_22_0_7, ap_22_22, src_22, bs_36_0_7, ap_36_36, src_36, keep_7, E_masks, masks, rows_7, Tryz.f7, awake_f7, lx, ly, lz, h100, h101, h90, sx, sy, sz, a1, a2, a3, e21, e22, e14, e1, hd1, neb_4, eqb_4, tt, ff, n0, hne]
      exact ⟨_, _, rfl⟩
    | false =>
      have hd2 := hd2 hs
      rw [hs] at hd1 e22
      simp -implicitDefEqProofs only [simA, Nat.reduceAdd, Nat.reduceLT, Nat.reduceEqDiff, Nat.reduceLeDiff, Nat.reduceMul, Int.reduceBEq, Int.reduceBNe, Int.reduceLT, Int.reduceLE, Int.reduceAdd, Int.reduceSub, Int.reduceMul, Int.reduceNeg, Nat.reduceSub, Nat.reducePow, Nat.reduceDiv, Nat.reduceMod, ln_36, ln_22, bs_22_0_7, ap_22_22, src_22, bs_36_0_7, ap_36_36, src_36, keep_7, E_masks, masks, rows_7, Tryz.f7, awake_f7, lx, ly, lz, h100, h101, h90, sx, sy, sz, a1, a2, a3, e21, e22, e14, e1, hd1, neb_4, eqb_4, tt, ff, n0, hd2, hne]
      exact ⟨_, _, rfl⟩
  simp only [Nat.reduceAdd] at e1
  have ht4 := lt_of_getElem? T.row
  rcases c18 1 H4 t' s' (sortT R) y A T.row T.view.rv T.ok T.most hst (hy.slv H4) hA (by omega) with ⟨z2', z3, t9, H5, s9, e2, T9, g5, q5⟩ | ⟨z2', e2⟩
  · simp only [Nat.reduceAdd] at e2
    have ht9 := lt_of_getElem? T9.row
    rcases c18 1 H5 t9 s9 _ z B T9.row T9.view.rv T9.ok T9.most T9.sorted (hz.slv H5) hB (by omega) with ⟨z4, z5, t12, H6, s12, e3, T12, g6, q6⟩ | ⟨z4, e3⟩
    · simp only [Nat.reduceAdd] at e3
      have tab : TabL (sortT R) := ⟨T.ok, hst, by rw [sortT_len hR]; exact hm⟩
      have hslen : (sortT R).length ≤ 100 := by rw [sortT_len hR]; omega
      obtain ⟨l, hl0, hl1, hl2, hl3⟩ := stage tab hslen hA hB (by omega) z2' z4
      rw [ho] at hl0
      subst hl0
      simp only [Option.getD_some] at ok0 len0 lv e14
      have T6 : H6[t']? = some (.row 1 0 [.agg [s']] ⟨true, 99⟩) := by rw [q6 t' (by omega), q5 t' ht4]; exact T.row
      have v6 : RV H6 s' (sortT R) := T.view.rv.stay fun j hj => by rw [q6 j (by omega), q5 j hj]
      rcases c18 1 H6 t' s' (sortT R) (mrgV (some l)) l T6 v6 T.ok T.most hst (sv H6) ok0 (by omega) with ⟨z6, z7, t15, H7, s15, e4, T15, g7, q7⟩ | ⟨z6, _⟩
      · simp only [Nat.reduceAdd] at e4
        have ht12 := lt_of_getElem? T12.row
        have T12' : H7[t12]? = some (.row 1 0 [.agg [s12]] ⟨true, 99⟩) := by rw [q7 t12 ht12]; exact T12.row
        have v12 : RV H7 s12 _ := T12.view.rv.stay fun j hj => q7 j hj
        have e5 := c23 7 H7 t12 t15 s12 s15 _ _ T12' T15.row v12 T15.view.rv T12.ok T15.ok T12.most T15.most
        rw [hl3] at e5
        simp only [Nat.reduceAdd, decide_true] at e5
        have hd1' : (mrgE (some l) == 0) = true := rfl
        simp only [Option.isSome_some] at e22
        simp -implicitDefEqProofs only [simA, Nat.reduceAdd, Nat.reduceLT, Nat.reduceEqDiff, Nat.reduceLeDiff, Nat.reduceMul, Int.reduceBEq, Int.reduceBNe, Int.reduceLT, Int.reduceLE, Int.reduceAdd, Int.reduceSub, Int.reduceMul, Int.reduceNeg, Nat.reduceSub, Nat.reducePow, Nat.reduceDiv, Nat.reduceMod, ln_36, ln_22, bs_22_0_7, ap_22_22, src_22, bs_36_0_7, ap_36_36, src_36, keep_7, E_masks, masks, rows_7, Tryz.f7, awake_f7, lx, ly, lz, h100, h101, h90, sx, sy, sz, a1, a2, a3, e21, e22, e14, e1, neb_4, eqb_4, tt, ff, n0, hd1', e2, e3, e4, e5, lv]
        exact ⟨_, _, rfl⟩
      · exact (z6 hl1).elim
    · simp only [Nat.reduceAdd] at e3
      have hne : ((foldT (foldT (sortT R) A 0).1 B 0).2.2 != 0) = true := by simpa using z4
      cases hs : o.isSome with
      | true =>
        rw [hs] at hd1 e22
        simp -implicitDefEqProofs only [simA, Nat.reduceAdd, Nat.reduceLT, Nat.reduceEqDiff, Nat.reduceLeDiff, Nat.reduceMul, Int.reduceBEq, Int.reduceBNe, Int.reduceLT, Int.reduceLE, Int.reduceAdd, Int.reduceSub, Int.reduceMul, Int.reduceNeg, Nat.reduceSub, Nat.reducePow, Nat.reduceDiv, Nat.reduceMod, ln_36, ln_22, bs_22_0_7, ap_22_22, src_22, bs_36_0_7, ap_36_36, src_36, keep_7, E_masks, masks, rows_7, Tryz.f7, awake_f7, lx, ly, lz, h100, h101, h90, sx, sy, sz, a1, a2, a3, e21, e22, e14, e1, hd1, neb_4, eqb_4, tt, ff, n0, e2, e3, hne]
        exact ⟨_, _, rfl⟩
      | false =>
        have hd2 := hd2 hs
        rw [hs] at hd1 e22
        simp -implicitDefEqProofs only [simA, Nat.reduceAdd, Nat.reduceLT, Nat.reduceEqDiff, Nat.reduceLeDiff, Nat.reduceMul, Int.reduceBEq, Int.reduceBNe, Int.reduceLT, Int.reduceLE, Int.reduceAdd, Int.reduceSub, Int.reduceMul, Int.reduceNeg, Nat.reduceSub, Nat.reducePow, Nat.reduceDiv, Nat.reduceMod, ln_36, ln_22, bs_22_0_7, ap_22_22, src_22, bs_36_0_7, ap_36_36, src_36, keep_7, E_masks, masks, rows_7, Tryz.f7, awake_f7, lx, ly, lz, h100, h101, h90, sx, sy, sz, a1, a2, a3, e21, e22, e14, e1, hd1, neb_4, eqb_4, tt, ff, n0, hd2, e2, e3, hne]
        exact ⟨_, _, rfl⟩
  · simp only [Nat.reduceAdd] at e2
    have hne : ((foldT (sortT R) A 0).2.2 != 0) = true := by simpa using z2'
    have e3 := c18n H4 z
    cases hs : o.isSome with
    | true =>
      rw [hs] at hd1 e22
      simp -implicitDefEqProofs only [simA, Nat.reduceAdd, Nat.reduceLT, Nat.reduceEqDiff, Nat.reduceLeDiff, Nat.reduceMul, Int.reduceBEq, Int.reduceBNe, Int.reduceLT, Int.reduceLE, Int.reduceAdd, Int.reduceSub, Int.reduceMul, Int.reduceNeg, Nat.reduceSub, Nat.reducePow, Nat.reduceDiv, Nat.reduceMod, ln_36, ln_22, bs_22_0_7, ap_22_22, src_22, bs_36_0_7, ap_36_36, src_36, keep_7, E_masks, masks, rows_7, Tryz.f7, awake_f7, lx, ly, lz, h100, h101, h90, sx, sy, sz, a1, a2, a3, e21, e22, e14, e1, hd1, neb_4, eqb_4, tt, ff, n0, e2, e3, hne]
      exact ⟨_, _, rfl⟩
    | false =>
      have hd2 := hd2 hs
      rw [hs] at hd1 e22
      simp -implicitDefEqProofs only [simA, Nat.reduceAdd, Nat.reduceLT, Nat.reduceEqDiff, Nat.reduceLeDiff, Nat.reduceMul, Int.reduceBEq, Int.reduceBNe, Int.reduceLT, Int.reduceLE, Int.reduceAdd, Int.reduceSub, Int.reduceMul, Int.reduceNeg, Nat.reduceSub, Nat.reducePow, Nat.reduceDiv, Nat.reduceMod, ln_36, ln_22, bs_22_0_7, ap_22_22, src_22, bs_36_0_7, ap_36_36, src_36, keep_7, E_masks, masks, rows_7, Tryz.f7, awake_f7, lx, ly, lz, h100, h101, h90, sx, sy, sz, a1, a2, a3, e21, e22, e14, e1, hd1, neb_4, eqb_4, tt, ff, n0, hd2, e2, e3, hne]
      exact ⟨_, _, rfl⟩

end Go.Proofs.YtobdjegooonklaaGreat

set_option linter.unusedSimpArgs false
set_option linter.unusedVariables false
namespace Go.Proofs.YtobdjegooonklaaGreat
open Go Go.AM Go.ChangeShapes Go.WideShapes Go.ChangeAt Go.RowKit

theorem own : ownKnob Tryz.prog.godebug = none := by kernel_rfl
theorem laidOut : laidOutB Tryz.prog = true := by kernel_rfl

set_option maxRecDepth 100000 in
theorem incrMerges_lifted (os : Os) (started : os.Started) (H : Type) (enc : TypeId × Value → H) :
    ReturnsInHanded {} Tryz.checked os 7 .any (Rows.incrMergesSpec.pre6 enc Tryz.prog Tryz.f7 Rows.incrMergesRow.domain false) (Rows.incrMergesSpec.post enc Tryz.prog Tryz.f7 false true false false) := by
  refine returnsInHanded_of_change (C := Tryz.checked) own started (by kernel_rfl) Tryz.func7
    (ChangeSpec.witness6 (enc := enc) (C := Tryz.checked) false ⟨#[], #[.slice none 0 0, .slice none 0 0, .slice none 0 0], []⟩ 8 (by kernel_rfl) (by kernel_rfl) (by kernel_rfl) (by kernel_rfl)) ?_
  intro W base args ds gs before hval0 hW hcnd _
  have hval : ∀ (j : Nat) t v, Tryz.f7.params[j]? = some t → args[j]? = some v → Value.okWide Tryz.prog W .any base t v := hval0
  have hW' := hW
  obtain ⟨p, q, hA0, hV, rfl, hfz, hnd⟩ := hW
  have hA : DataW.TrodAll enc Tryz.prog W 0 (fun _ => true) true Tryz.f7.params.toList args.toList ds p := hA0
  rw [Tryz.params7] at hA hval
  obtain ⟨v0, v1, v2, d0, d1, d2, p0, p1, p2, rfl, rfl, rfl, h0, h1, h2⟩ := trodAll_three hA
  obtain ⟨rfl, rfl⟩ := trodVars_none hV
  obtain ⟨x, hx, hcx⟩ := arg_slice Tryz.underlying36 c58 (hval 0 36 v0 rfl rfl) h0 (fun _ _ _ h => route_elem h)
  obtain ⟨y, hy, hcy⟩ := arg_slice Tryz.underlying22 c60 (hval 1 22 v1 rfl rfl) h1 (fun _ _ _ h => inc_elem h)
  obtain ⟨z, hz, hcz⟩ := arg_slice Tryz.underlying22 c60 (hval 2 22 v2 rfl rfl) h2 (fun _ _ _ h => inc_elem h)
  obtain ⟨R, hR, aR⟩ := arg_routes hcx
  obtain ⟨L, hL, aL⟩ := arg_incs hcy
  obtain ⟨M, hM, aM⟩ := arg_incs hcz
  obtain ⟨h, e, hcall⟩ := incrMerges_true x y z R L M aR aL aM hR hL hM
  obtain ⟨c, hc⟩ : ∃ c, Tryz.f7.body = some c := ⟨_, rfl⟩
  refine (law_calls e_ok (f := 7) Tryz.func7 hc rfl hcall (vs := [v0, v1, v2]) (by simp only [VL]; exact ⟨v0, [v1, v2], hx, ⟨v1, [v2], hy, ⟨v2, [], hz, rfl, rfl⟩, rfl⟩, rfl⟩)).mono fun e W' ⟨he, hb⟩ => ?_
  subst he
  exact ⟨_, rfl, law_post laidOut rfl rfl ut4 (by kernel_rfl) hW' rfl hb⟩

theorem incrMerges_holds : Rows.IncrMergesSaid :=
  OpenClaim.holds_of_wide 7 Tryz.f7 rfl rfl rfl rfl rfl rfl rfl ⟨rfl, rfl, rfl, rfl, rfl⟩ rfl rfl rfl rfl rfl (by kernel_rfl) Tryz.func7 (by kernel_rfl)
    (of_decide_eq_true (by kernel_rfl)) (by unfold Func.isWrapper; first | (rw [if_pos (by decide +kernel)]; kernel_rfl) | (rw [if_neg (by decide +kernel)]; exact ⟨rfl, rfl⟩))
    (fun os started H enc _ => incrMerges_lifted os started H enc)

end Go.Proofs.YtobdjegooonklaaGreat
