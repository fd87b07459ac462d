/- Into a table that is none nothing is folded: IncrNil is true of every list of changes, and leaves it as it was. Conditions: none. -/
import Derived.Test.YtobdjegooonklaaGreatAmSeat
import Derived.Test.YtobdjegooonklaaGreatAmSim
import Derived.Test.YtobdjegooonklaaGreatAmTypes
import Derived.Test.YtobdjegooonklaaGreatRows
namespace Go.Proofs.YtobdjegooonklaaGreat
open Go Go.AM Go.ChangeShapes Go.WideShapes Go.ChangeAt Go.RowKit
set_option linter.unusedSimpArgs false

theorem fold_nil (x : AV) : call E 300 18 [.v (.pointer none), x] [] = some (.tup [.v (.pointer none), .v (.int .i64 0), .v (.int .i64 10)], [], ⟨[], [], true⟩) := by kernel_rfl
theorem merge_nil : call E 300 21 [nilS, nilS] [] = some (.tup [nilS, .v (.int .i64 0)], [], ⟨[], [], true⟩) := by kernel_rfl
theorem keep_6 : E.keep 6 = false := by kernel_rfl
theorem len_22 (h : Heap) (x : AV) : builtinE E h .len #[22] 3 [x] = match sliceLen x with
    | some n => some (vInt n, h, none, .pure)
    | none => none := by kernel_rfl
theorem eql_37 (a b : Operand) : binE E.P .eql 37 a b (.v (.pointer none)) (.v (.pointer none)) = some (.v (.bool true)) := by kernel_rfl

theorem incrNil_lit (full : Bool) (l : List AV) : call E 301 6 [.lit 21 full l] [] = some (.v (.bool true), [], ⟨[], [], true⟩) := by
  rw [call_at (E := E) (f := 6) (fn := Tryz.f6) rfl Tryz.func6 rfl (Nat.le_of_ble_eq_true rfl)]
  by_cases hl : 200 < (l.length : Int)
  all_goals simp -implicitDefEqProofs only [co_nil, co_seq, co_seq_ret, co_seq_exit, co_seq_goto, co_block, co_block_ret, co_block_goto, co_block_exit, at_skip, at_label, at_ret, at_exit, at_goto, at_seq, at_block, at_cond, cnd_true, cnd_false, lp_some, at_region, at_draw, rn_nil, rn_cons, rn_guard, rd_nil, rd_cons, rd_guard, wn_true, wn_false, wn_none, wd_true, wd_false, wd_none, pn_put, pn_none, pd_put, pd_none, wanted_of, grd_bool, grd_tup, get_cons, ev_tmp, ev_func, ev_int, ev_bool, ev_str, ev_nilp, ev_nils, ev_nili, evL_cons1, evL_nil, evP_cons, evP_nil, o1_some, ap1_some, ap2_some, core_move, core_assign, pk_true, pk_false, core_pick, core_bin, core_load, core_field, core_faddr, core_index, core_iaddr, exL, core_extract, core_un, nlC, core_nilc, alO_some, core_alloc, bxO_some, core_box, core_store, stO_some, blO_none, blO_some, apL_some, core_built, kO_some, clO_some, core_call, opO_some, core_build, core_bslice, core_slice, core_conv, core_mkfn, core_mkmap, fin_normal, fin_ret, res_nil, res_tmp, mergeLt_nil, mergeLt_one, bin_add, bin_sub, bin_mul, bin_lss, bin_leq, bin_gtr, bin_geq, bin_eql, bin_neq, un_not, end0, end1, endS0, endS1, args0, oneOrTup, cond_true, cond_false, ite_true, ite_false, bleE, bltE, beqE, decide_true, decide_false, Bool.not_false, Bool.not_true, Bool.and_true, Bool.true_and, Bool.and_false, Bool.false_and, Nat.reduceAdd, Nat.reduceLT, Nat.reduceEqDiff, Nat.reduceLeDiff, Nat.reduceMul, leafs, leafsL, isTupA, isAggA, idfree, idfreeL, loadE, lookAt, partE, fieldAddrE, nav, navL, List.nil_append, List.cons_append, List.append_assoc, List.getElem?_cons_zero, List.getElem?_cons_succ, List.length_cons, List.length_nil, beq_self_eq_true, Bool.true_beq, Bool.false_beq, fin_free, fzO_nil, fzO_cons, fin_keep, fin_ls, frz, frzL, List.getElem?_toArray, Option.bind_some, Int.cast_ofNat_Int, Int.reduceBEq, Int.reduceBNe, Int.reduceLT, Int.reduceLE, Int.reduceAdd, Int.reduceSub, Int.reduceMul, Int.reduceNeg, Tryz.f6, awake_true, keep_6, len_22, sliceLen, vInt, hl, fold_nil, merge_nil, eql_37]

theorem incrNil_nil : call E 301 6 [nilS] [] = some (.v (.bool true), [], ⟨[], [], true⟩) := by
  rw [call_at (E := E) (f := 6) (fn := Tryz.f6) rfl Tryz.func6 rfl (Nat.le_of_ble_eq_true rfl)]
  simp -implicitDefEqProofs only [co_nil, co_seq, co_seq_ret, co_seq_exit, co_seq_goto, co_block, co_block_ret, co_block_goto, co_block_exit, at_skip, at_label, at_ret, at_exit, at_goto, at_seq, at_block, at_cond, cnd_true, cnd_false, lp_some, at_region, at_draw, rn_nil, rn_cons, rn_guard, rd_nil, rd_cons, rd_guard, wn_true, wn_false, wn_none, wd_true, wd_false, wd_none, pn_put, pn_none, pd_put, pd_none, wanted_of, grd_bool, grd_tup, get_cons, ev_tmp, ev_func, ev_int, ev_bool, ev_str, ev_nilp, ev_nils, ev_nili, evL_cons1, evL_nil, evP_cons, evP_nil, o1_some, ap1_some, ap2_some, core_move, core_assign, pk_true, pk_false, core_pick, core_bin, core_load, core_field, core_faddr, core_index, core_iaddr, exL, core_extract, core_un, nlC, core_nilc, alO_some, core_alloc, bxO_some, core_box, core_store, stO_some, blO_none, blO_some, apL_some, core_built, kO_some, clO_some, core_call, opO_some, core_build, core_bslice, core_slice, core_conv, core_mkfn, core_mkmap, fin_normal, fin_ret, res_nil, res_tmp, mergeLt_nil, mergeLt_one, bin_add, bin_sub, bin_mul, bin_lss, bin_leq, bin_gtr, bin_geq, bin_eql, bin_neq, un_not, end0, end1, endS0, endS1, args0, oneOrTup, cond_true, cond_false, ite_true, ite_false, bleE, bltE, beqE, decide_true, decide_false, Bool.not_false, Bool.not_true, Bool.and_true, Bool.true_and, Bool.and_false, Bool.false_and, Nat.reduceAdd, Nat.reduceLT, Nat.reduceEqDiff, Nat.reduceLeDiff, Nat.reduceMul, leafs, leafsL, isTupA, isAggA, idfree, idfreeL, loadE, lookAt, partE, fieldAddrE, nav, navL, List.nil_append, List.cons_append, List.append_assoc, List.getElem?_cons_zero, List.getElem?_cons_succ, List.length_cons, List.length_nil, beq_self_eq_true, Bool.true_beq, Bool.false_beq, fin_free, fzO_nil, fzO_cons, fin_keep, fin_ls, frz, frzL, List.getElem?_toArray, Option.bind_some, Int.cast_ofNat_Int, Int.reduceBEq, Int.reduceBNe, Int.reduceLT, Int.reduceLE, Int.reduceAdd, Int.reduceSub, Int.reduceMul, Int.reduceNeg, Tryz.f6, awake_true, keep_6, len_22, sliceLen, vInt, fold_nil, merge_nil, eql_37]

theorem own : ownKnob Tryz.prog.godebug = none := by kernel_rfl
theorem laidOut : laidOutB Tryz.prog = true := by kernel_rfl

set_option maxRecDepth 100000 in
theorem incrNil_lifted (os : Os) (started : os.Started) (H : Type) (enc : TypeId × Value → H) :
    ReturnsInHanded {} Tryz.checked os 6 .any (Rows.incrNilSpec.pre6 enc Tryz.prog Tryz.f6 Rows.incrNilRow.domain false) (Rows.incrNilSpec.post enc Tryz.prog Tryz.f6 false true false false) := by
  refine returnsInHanded_of_change (C := Tryz.checked) own started (by kernel_rfl) Tryz.func6
    (ChangeSpec.witness6 (enc := enc) (C := Tryz.checked) false ⟨#[], #[.slice none 0 0], []⟩ 8 (by kernel_rfl) (by kernel_rfl) (by kernel_rfl) (by kernel_rfl)) ?_
  intro W base args ds gs before hval0 hW hcnd _
  have hval : ∀ (j : Nat) t v, Tryz.f6.params[j]? = some t → args[j]? = some v → Value.okWide Tryz.prog W .any base t v := hval0
  have hW' := hW
  obtain ⟨p, q, hA0, hV, rfl, hfz, hnd⟩ := hW
  have hA : DataW.TrodAll enc Tryz.prog W 0 (fun _ => true) true Tryz.f6.params.toList args.toList ds p := hA0
  rw [Tryz.params6] at hA hval
  obtain ⟨v0, d0, rfl, rfl, h0⟩ := trodAll_one hA
  obtain ⟨rfl, rfl⟩ := trodVars_none hV
  obtain ⟨x, hx, hcase⟩ := arg_slice Tryz.underlying22 c60 (hval 0 22 v0 rfl rfl) h0 (fun _ _ _ h => inc_elem h)
  have hcall : ∃ h e, call E 301 6 [x] [] = some (.v (.bool true), h, e) := by
    rcases hcase with rfl | ⟨l, rfl, _⟩
    · exact ⟨_, _, incrNil_nil⟩
    · exact ⟨_, _, incrNil_lit _ _⟩
  obtain ⟨h, e, hcall⟩ := hcall
  obtain ⟨c, hc⟩ : ∃ c, Tryz.f6.body = some c := ⟨_, rfl⟩
  refine (law_calls e_ok (f := 6) Tryz.func6 hc rfl hcall (vs := [v0]) (by simp only [VL]; exact ⟨v0, [], hx, rfl, rfl⟩)).mono fun e W' ⟨he, hb⟩ => ?_
  subst he
  exact ⟨_, rfl, law_post laidOut rfl rfl ut4 (by kernel_rfl) hW' rfl hb⟩

theorem incrNil_holds : Rows.IncrNilSaid :=
  OpenClaim.holds_of_wide 6 Tryz.f6 rfl rfl rfl rfl rfl rfl rfl ⟨rfl, rfl, rfl, rfl, rfl⟩ rfl rfl rfl rfl rfl (by kernel_rfl) Tryz.func6 (by kernel_rfl)
    (of_decide_eq_true (by kernel_rfl)) (by unfold Func.isWrapper; first | (rw [if_pos (by decide +kernel)]; kernel_rfl) | (rw [if_neg (by decide +kernel)]; exact ⟨rfl, rfl⟩))
    (fun os started H enc _ => incrNil_lifted os started H enc)

end Go.Proofs.YtobdjegooonklaaGreat
