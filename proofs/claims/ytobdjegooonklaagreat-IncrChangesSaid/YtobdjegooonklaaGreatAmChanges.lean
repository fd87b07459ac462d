/- The changes between two tables are a row that can be written, folds the one into the other, and merged with its way back is nothing, or changes to what was: IncrChanges is true of all routes, and leaves them as they were. Conditions: none. -/
import Derived.Test.YtobdjegooonklaaGreatAmChg4
import Derived.Test.YtobdjegooonklaaGreatAmPrint
import Derived.Test.YtobdjegooonklaaGreatRows
set_option linter.unusedSimpArgs false
set_option linter.unusedVariables false
set_option maxRecDepth 100000
set_option maxHeartbeats 1000000
namespace Go.Proofs.YtobdjegooonklaaGreat
open Go Go.AM Go.ChangeShapes Go.WideShapes Go.ChangeAt Go.RowKit

theorem awake_f9 : call E 509 10 [] [] = some (.v (.bool true), [], ⟨[], [], true⟩) := by kernel_rfl

theorem chgV_slv (h : Heap) : ∀ l : List Inc, SlV h 21 (chgV l) (l.map Inc.av)
  | [] => .inl ⟨rfl, rfl⟩
  | i :: l => .inr (.inl ⟨false, rfl⟩)
theorem newE_right {l : List Route} (hok : ∀ r ∈ l, r.ok) (h : newE l = 0) : ∀ r ∈ sortT l, rightR r = true := by
  have hb : anyBad l = false := by
    cases ha : anyBad l with
    | false => rfl
    | true => simp [newE, ha] at h
  intro r hr
  have hm := (sortT_perm hok).subset hr
  cases hc : rightR r with
  | true => rfl
  | false =>
    have : anyBad l = true := List.any_eq_true.2 ⟨r, hm, by simp [hc]⟩
    rw [hb] at this
    cases this
theorem printS_ok {l : List Inc} (h : wrongs l = false) (hl : l.length ≤ 200) : (printS l).2 = 0 := by
  have : ¬ 200 < l.length := by omega
  simp [printS, h, this]

theorem incrChanges_true (x y : AV) (R L : List Route) (hx : Arg 20 x (R.map Route.av)) (hy : Arg 20 y (L.map Route.av)) (hR : ∀ r ∈ R, r.ok) (hL : ∀ r ∈ L, r.ok) : ∃ h e, call E 510 9 [x, y] [] = some (.v (.bool true), h, e) := by
  have lx : sliceLen x = some R.length := by rw [hx.len]; simp
  have ly : sliceLen y = some L.length := by rw [hy.len]; simp
  rw [call_at (E := E) (f := 9) (fn := Tryz.f9) rfl Tryz.func9 rfl (Nat.le_of_ble_eq_true rfl)]
  by_cases h90 : (90 : Int) < R.length
  · simp -implicitDefEqProofs only [simA, Nat.reduceAdd, Nat.reduceLT, Nat.reduceEqDiff, Nat.reduceLeDiff, Nat.reduceMul, Int.reduceBEq, Int.reduceBNe, Int.reduceLT, Int.reduceLE, Int.reduceAdd, Int.reduceSub, Int.reduceMul, Int.reduceNeg, Nat.reduceSub, Nat.reducePow, Nat.reduceDiv, Nat.reduceMod, ln_36, bs_36_0_9, ap_36_36, src_36, keep_9, E_masks, masks, rows_9, Tryz.f9, awake_f9, lx, ly, h90]
    exact ⟨_, _, rfl⟩
  by_cases h91 : (90 : Int) < L.length
  · simp -implicitDefEqProofs only [simA, Nat.reduceAdd, Nat.reduceLT, Nat.reduceEqDiff, Nat.reduceLeDiff, Nat.reduceMul, Int.reduceBEq, Int.reduceBNe, Int.reduceLT, Int.reduceLE, Int.reduceAdd, Int.reduceSub, Int.reduceMul, Int.reduceNeg, Nat.reduceSub, Nat.reducePow, Nat.reduceDiv, Nat.reduceMod, ln_36, bs_36_0_9, ap_36_36, src_36, keep_9, E_masks, masks, rows_9, Tryz.f9, awake_f9, lx, ly, h90, h91]
    exact ⟨_, _, rfl⟩
  have sx := hx.src
  have sy := hy.src
  have n0 : ∀ a : Nat, ¬ a < 0 := fun a => Nat.not_lt_zero a
  obtain ⟨x1, H1, c1, a1, o1, _⟩ := copy_rt (B := []) (L := R) (by omega)
  simp -implicitDefEqProofs only [simA, Nat.reduceAdd, Nat.reduceLT, Nat.reduceEqDiff, Nat.reduceLeDiff, Nat.reduceMul, Int.reduceBEq, Int.reduceBNe, Int.reduceLT, Int.reduceLE, Int.reduceAdd, Int.reduceSub, Int.reduceMul, Int.reduceNeg, Nat.reduceSub, Nat.reducePow, Nat.reduceDiv, Nat.reduceMod] at a1
  rcases c16 2 H1 x1 R o1.rv hR (by omega) with ⟨z1, e1⟩ | ⟨z1, hm, hst, t', H2, s', e1, T, b1, b2⟩
  · simp only [Nat.reduceAdd] at e1
    have hne : (newE R != 0) = true := by simpa using z1
    obtain ⟨y3, H3, c3, a3, o3, _⟩ := copy_rt (B := H1) (L := L) (by omega)
    simp -implicitDefEqProofs only [simA, Nat.reduceAdd, Nat.reduceLT, Nat.reduceEqDiff, Nat.reduceLeDiff, Nat.reduceMul, Int.reduceBEq, Int.reduceBNe, Int.reduceLT, Int.reduceLE, Int.reduceAdd, Int.reduceSub, Int.reduceMul, Int.reduceNeg, Nat.reduceSub, Nat.reducePow, Nat.reduceDiv, Nat.reduceMod] at a3
    rcases c16 2 H3 y3 L o3.rv hL (by omega) with ⟨z2, e2⟩ | ⟨z2, hm2, hst2, t2, H4, s2, e2, T2, b3, b4⟩
    · simp only [Nat.reduceAdd] at e2
      simp -implicitDefEqProofs only [simA, Nat.reduceAdd, Nat.reduceLT, Nat.reduceEqDiff, Nat.reduceLeDiff, Nat.reduceMul, Int.reduceBEq, Int.reduceBNe, Int.reduceLT, Int.reduceLE, Int.reduceAdd, Int.reduceSub, Int.reduceMul, Int.reduceNeg, Nat.reduceSub, Nat.reducePow, Nat.reduceDiv, Nat.reduceMod, ln_36, bs_36_0_9, ap_36_36, src_36, keep_9, E_masks, masks, rows_9, Tryz.f9, awake_f9, lx, ly, h90, h91, sx, sy, a1, a3, e1, e2, hne, n0]
      exact ⟨_, _, rfl⟩
    · simp only [Nat.reduceAdd] at e2
      simp -implicitDefEqProofs only [simA, Nat.reduceAdd, Nat.reduceLT, Nat.reduceEqDiff, Nat.reduceLeDiff, Nat.reduceMul, Int.reduceBEq, Int.reduceBNe, Int.reduceLT, Int.reduceLE, Int.reduceAdd, Int.reduceSub, Int.reduceMul, Int.reduceNeg, Nat.reduceSub, Nat.reducePow, Nat.reduceDiv, Nat.reduceMod, ln_36, bs_36_0_9, ap_36_36, src_36, keep_9, E_masks, masks, rows_9, Tryz.f9, awake_f9, lx, ly, h90, h91, sx, sy, a1, a3, e1, e2, hne, n0]
      exact ⟨_, _, rfl⟩
  simp only [Nat.reduceAdd] at e1
  obtain ⟨y3, H3, c3, a3, o3, _⟩ := copy_rt (B := H2) (L := L) (by omega)
  simp -implicitDefEqProofs only [simA, Nat.reduceAdd, Nat.reduceLT, Nat.reduceEqDiff, Nat.reduceLeDiff, Nat.reduceMul, Int.reduceBEq, Int.reduceBNe, Int.reduceLT, Int.reduceLE, Int.reduceAdd, Int.reduceSub, Int.reduceMul, Int.reduceNeg, Nat.reduceSub, Nat.reducePow, Nat.reduceDiv, Nat.reduceMod] at a3
  have q3 := o3.old
  have g3 := o3.grow
  rcases c16 2 H3 y3 L o3.rv hL (by omega) with ⟨z2, e2⟩ | ⟨z2, hm2, hst2, t2, H4, s2, e2, T2, b3, b4⟩
  · simp only [Nat.reduceAdd] at e2
    have hne : (newE L != 0) = true := by simpa using z2
    simp -implicitDefEqProofs only [simA, Nat.reduceAdd, Nat.reduceLT, Nat.reduceEqDiff, Nat.reduceLeDiff, Nat.reduceMul, Int.reduceBEq, Int.reduceBNe, Int.reduceLT, Int.reduceLE, Int.reduceAdd, Int.reduceSub, Int.reduceMul, Int.reduceNeg, Nat.reduceSub, Nat.reducePow, Nat.reduceDiv, Nat.reduceMod, ln_36, bs_36_0_9, ap_36_36, src_36, keep_9, E_masks, masks, rows_9, Tryz.f9, awake_f9, lx, ly, h90, h91, sx, sy, a1, a3, e1, e2, hne, n0]
    exact ⟨_, _, rfl⟩
  · simp only [Nat.reduceAdd] at e2
    have slX : SL (sortT R) := ⟨T.ok, hst⟩
    have slY : SL (sortT L) := ⟨T2.ok, hst2⟩
    have lX : (sortT R).length ≤ 90 := by rw [sortT_len hR]; omega
    have lY : (sortT L).length ≤ 90 := by rw [sortT_len hL]; omega
    have rX := newE_right hR z1
    have rY := newE_right hL z2
    obtain ⟨hw, l, hmg, hl1, hl2, hl3⟩ := there_back slX slY rX rY lX lY
    obtain ⟨w1, w2, w3⟩ := chg_way slX slY rX rY (by omega)
    obtain ⟨okA, lenA⟩ := chg_all _ (sortT R) (sortT L) (Nat.le_refl _) T.ok T2.ok
    obtain ⟨okB, lenB⟩ := chg_all _ (sortT L) (sortT R) (Nat.le_refl _) T2.ok T.ok
    have okA' : ∀ i ∈ chg (sortT R) (sortT L), i.ok := fun i hi => (okA i hi).1
    have okB' : ∀ i ∈ chg (sortT L) (sortT R), i.ok := fun i hi => (okB i hi).1
    obtain ⟨okl, lenl⟩ := mergeP_ok okA' okB'
    rw [hmg] at okl lenl
    simp only [Option.getD_some] at okl lenl
    have ht' := lt_of_getElem? T.row
    have ht2 := lt_of_getElem? T2.row
    have q24 : ∀ j, j < H2.length → H4[j]? = H2[j]? := fun j hj => by rw [b4 j (by omega), q3 j hj]
    have r4 : H4[t']? = some (.row 1 0 [.agg [s']] ⟨true, 99⟩) := by rw [q24 t' ht']; exact T.row
    have v4 : RV H4 s' (sortT R) := T.view.rv.stay q24
    have e3 := c24 6 H4 t' t2 s' s2 _ _ r4 T2.row v4 T2.view.rv T.ok T2.ok (by omega) (by omega)
    have e4 := c24 6 H4 t2 t' s2 s' _ _ T2.row r4 T2.view.rv v4 T2.ok T.ok (by omega) (by omega)
    simp only [Nat.reduceAdd] at e3 e4
    rcases c18 1 H4 t' s' (sortT R) _ _ r4 v4 T.ok T.most hst (chgV_slv H4 (chg (sortT R) (sortT L))) okA' (by omega) with ⟨_, _, t5, H5, s5, e5, T5, g5, q5⟩ | ⟨z, _⟩
    · rw [w3] at T5
      simp only [Nat.reduceAdd] at e5
      have e6 := c21 1 H5 _ _ _ _ (chgV_slv H5 (chg (sortT R) (sortT L))) (chgV_slv H5 (chg (sortT L) (sortT R))) okA' okB' (by simp only [List.length_append]; omega)
      rw [hmg] at e6
      have r5 : H5[t']? = some (.row 1 0 [.agg [s']] ⟨true, 99⟩) := by rw [q5 t' (by omega)]; exact r4
      have v5 : RV H5 s' (sortT R) := v4.stay q5
      have hme : mrgE (some l) = 0 := rfl
      rw [hme] at e6
      simp only [Nat.reduceAdd] at e6
      rcases c18 1 H5 t' s' (sortT R) (mrgV (some l)) l r5 v5 T.ok T.most hst (mrgV_slv H5 (some l)) okl (by omega) with ⟨_, _, t7, H7, s7, e7, T7, g7, q7⟩ | ⟨z, _⟩
      · rw [hl3] at T7
        simp only [Nat.reduceAdd] at e7
        have e8 := c11 1 H7 _ _ okA' (chgV_slv H7 (chg (sortT R) (sortT L))) (by omega)
        rw [printS_ok hw (by omega)] at e8
        simp only [Nat.reduceAdd] at e8
        have ht5 := lt_of_getElem? T5.row
        have q57 : ∀ j, j < H5.length → H7[j]? = H5[j]? := q7
        have r7 : H7[t5]? = some (.row 1 0 [.agg [s5]] ⟨true, 99⟩) := by rw [q57 t5 ht5]; exact T5.row
        have r7' : H7[t']? = some (.row 1 0 [.agg [s']] ⟨true, 99⟩) := by rw [q57 t' (by omega)]; exact r5
        have r72 : H7[t2]? = some (.row 1 0 [.agg [s2]] ⟨true, 99⟩) := by rw [q57 t2 (by omega), q5 t2 ht2]; exact T2.row
        have e9 := c23 7 H7 t5 t2 s5 s2 _ _ r7 r72 (T5.view.rv.stay q57) ((T2.view.rv.stay q5).stay q57) T5.ok T2.ok T5.most T2.most
        have e10 := c23 7 H7 t7 t' s7 s' _ _ T7.row r7' T7.view.rv (v5.stay q57) T7.ok T.ok T7.most T.most
        simp only [Nat.reduceAdd, decide_true] at e9 e10
        simp -implicitDefEqProofs only [simA, Nat.reduceAdd, Nat.reduceLT, Nat.reduceEqDiff, Nat.reduceLeDiff, Nat.reduceMul, Int.reduceBEq, Int.reduceBNe, Int.reduceLT, Int.reduceLE, Int.reduceAdd, Int.reduceSub, Int.reduceMul, Int.reduceNeg, Nat.reduceSub, Nat.reducePow, Nat.reduceDiv, Nat.reduceMod, ln_36, bs_36_0_9, ap_36_36, src_36, keep_9, E_masks, masks, rows_9, Tryz.f9, awake_f9, lx, ly, h90, h91, sx, sy, a1, a3, e1, e2, e3, e4, e5, e6, e7, e8, e9, e10, n0]
        exact ⟨_, _, rfl⟩ -- MARKA
      · exact (z hl1).elim
    · exact (z w1).elim

end Go.Proofs.YtobdjegooonklaaGreat

set_option linter.unusedSimpArgs false
set_option linter.unusedVariables false
namespace Go.Proofs.YtobdjegooonklaaGreat
open Go Go.AM Go.ChangeShapes Go.WideShapes Go.ChangeAt Go.RowKit

theorem own : ownKnob Tryz.prog.godebug = none := by kernel_rfl
theorem laidOut : laidOutB Tryz.prog = true := by kernel_rfl

set_option maxRecDepth 100000 in
theorem incrChanges_lifted (os : Os) (started : os.Started) (H : Type) (enc : TypeId × Value → H) :
    ReturnsInHanded {} Tryz.checked os 9 .any (Rows.incrChangesSpec.pre6 enc Tryz.prog Tryz.f9 Rows.incrChangesRow.domain false) (Rows.incrChangesSpec.post enc Tryz.prog Tryz.f9 false true false false) := by
  refine returnsInHanded_of_change (C := Tryz.checked) own started (by kernel_rfl) Tryz.func9
    (ChangeSpec.witness6 (enc := enc) (C := Tryz.checked) false ⟨#[], #[.slice none 0 0, .slice none 0 0], []⟩ 8 (by kernel_rfl) (by kernel_rfl) (by kernel_rfl) (by kernel_rfl)) ?_
  intro W base args ds gs before hval0 hW hcnd _
  have hval : ∀ (j : Nat) t v, Tryz.f9.params[j]? = some t → args[j]? = some v → Value.okWide Tryz.prog W .any base t v := hval0
  have hW' := hW
  obtain ⟨p, q, hA0, hV, rfl, hfz, hnd⟩ := hW
  have hA : DataW.TrodAll enc Tryz.prog W 0 (fun _ => true) true Tryz.f9.params.toList args.toList ds p := hA0
  rw [Tryz.params9] at hA hval
  obtain ⟨v0, v1, d0, d1, p0, p1, rfl, rfl, rfl, h0, h1⟩ := trodAll_two hA
  obtain ⟨rfl, rfl⟩ := trodVars_none hV
  obtain ⟨x, hx, hcx⟩ := arg_slice Tryz.underlying36 c58 (hval 0 36 v0 rfl rfl) h0 (fun _ _ _ h => route_elem h)
  obtain ⟨y, hy, hcy⟩ := arg_slice Tryz.underlying36 c58 (hval 1 36 v1 rfl rfl) h1 (fun _ _ _ h => route_elem h)
  obtain ⟨R, hR, aR⟩ := arg_routes hcx
  obtain ⟨L, hL, aL⟩ := arg_routes hcy
  obtain ⟨h, e, hcall⟩ := incrChanges_true x y R L aR aL hR hL
  obtain ⟨c, hc⟩ : ∃ c, Tryz.f9.body = some c := ⟨_, rfl⟩
  refine (law_calls e_ok (f := 9) Tryz.func9 hc rfl hcall (vs := [v0, v1]) (by simp only [VL]; exact ⟨v0, [v1], hx, ⟨v1, [], hy, rfl, rfl⟩, rfl⟩)).mono fun e W' ⟨he, hb⟩ => ?_
  subst he
  exact ⟨_, rfl, law_post laidOut rfl rfl ut4 (by kernel_rfl) hW' rfl hb⟩

theorem incrChanges_holds : Rows.IncrChangesSaid :=
  OpenClaim.holds_of_wide 9 Tryz.f9 rfl rfl rfl rfl rfl rfl rfl ⟨rfl, rfl, rfl, rfl, rfl⟩ rfl rfl rfl rfl rfl (by kernel_rfl) Tryz.func9 (by kernel_rfl)
    (of_decide_eq_true (by kernel_rfl)) (by unfold Func.isWrapper; first | (rw [if_pos (by decide +kernel)]; kernel_rfl) | (rw [if_neg (by decide +kernel)]; exact ⟨rfl, rfl⟩))
    (fun os started H enc _ => incrChanges_lifted os started H enc)

end Go.Proofs.YtobdjegooonklaaGreat
