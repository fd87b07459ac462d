/- Any bytes are read as the document says, and what is read is written as it was: IncrReads is true of every bytes, and leaves them as they were. Conditions: none. -/
import Derived.Test.YtobdjegooonklaaGreatAmReads
import Derived.Test.YtobdjegooonklaaGreatAmSame
import Derived.Test.YtobdjegooonklaaGreatAmPrint
import Derived.Test.YtobdjegooonklaaGreatRows
set_option linter.unusedSimpArgs false
set_option linter.unusedVariables false
namespace Go.Proofs.YtobdjegooonklaaGreat
open Go Go.AM Go.ChangeShapes Go.WideShapes Go.ChangeAt Go.RowKit

theorem awake_509 : call E 509 10 [] [] = some (.v (.bool true), [], ⟨[], [], true⟩) := by kernel_rfl

theorem incrReads_true (s : List UInt8) : ∃ h e, call E 510 4 [.v (.string (strB s))] [] = some (.v (.bool true), h, e) := by
  rw [call_at (E := E) (f := 4) (fn := Tryz.f4) rfl Tryz.func4 rfl (Nat.le_of_ble_eq_true rfl)]
  by_cases h3000 : (3000 : Int) < s.length
  · simp -implicitDefEqProofs only [Zaa, Zab, Zac, Zad, Zae, Zaf, Zag, Zah, Zai, Zaj, Zak, Zal, Zam, Zan, Zao, Zap, Zaq, Zar, Zas, Zat, Zau, Zav, Zaw, Zax, Zay, Zaz, Zba, Zbb, Zbc, Zbd, Zbe, Zbf, Zbg, Zbh, Zbi, Zbj, Zbk, Zbl, Zbm, Zbn, Zbo, Zbp, Zbq, Zbr, Zbs, Zbt, Zbu, Zbv, Zbw, Zbx, Zby, Zbz, Zca, Zcb, Zcc, Zcd, Zce, Zcf, Zcg, Zch, Zci, Zcj, Zck, Zcl, Zcm, Zcn, Zco, Zcp, exL, Zcq, Zcr, nlC, Zcs, Zct, Zcu, Zcv, Zcw, Zcx, Zcy, Zcz, Zda, Zdb, Zdc, Zdd, Zde, Zdf, Zdg, Zdh, Zdi, Zdj, Zdk, Zdl, Zdm, Zdn, Zdo, Zdp, Zdq, Zdr, Zds, Zdt, Zdu, Zdv, Zdw, Zdx, Zdy, Zdz, Zea, Zeb, Zec, Zed, Zee, Zef, Zeg, Zeh, Zei, Zej, end0, end1, endS0, endS1, args0, oneOrTup, cond_true, cond_false, ite_true, ite_false, bleE, bltE, beqE, decide_true, decide_false, Bool.not_false, Bool.not_true, Bool.and_true, Bool.true_and, Bool.and_false, Bool.false_and, Nat.reduceAdd, Nat.reduceLT, Nat.reduceEqDiff, Nat.reduceLeDiff, Nat.reduceMul, leafsL, idfree, idfreeL, loadE, Zek, Zel, partE, fieldAddrE, nav, navL, List.nil_append, List.cons_append, List.append_assoc, List.getElem?_cons_zero, List.getElem?_cons_succ, List.length_cons, List.length_nil, beq_self_eq_true, Bool.true_beq, Bool.false_beq, Zem, Zen, Zeo, Zep, Zeq, frz, frzL, List.getElem?_toArray, Option.bind_some, Int.cast_ofNat_Int, Int.reduceBEq, Int.reduceBNe, Int.reduceLT, Int.reduceLE, Int.reduceAdd, Int.reduceSub, Int.reduceMul, Int.reduceNeg, Zer, Zes, Zet, Zeu, Zev, Zew, Zex, Zey, Zez, Zfa, Zfb, Zfc, Zfd, List.isEmpty_nil, List.isEmpty_cons, Zfe, Zff, Zfg, Zfh, vInt, Option.getD_some, Option.getD_none, List.set_cons_zero, List.set_cons_succ, put, putL, setParts, List.length_append, List.length_set, Zfi, Zfj, Zfk, Zfl, Zfm, Zfn, Zfo, Zfp, Zfq, Zfr, loopB, loopsIn, List.getD_cons_zero, List.getD_cons_succ, Zfs, Zft, Zfu, Zfv, Zfw, Zfx, Zfy, Zfz, Zga, Zgb, Zgc, Zgd, Zge, Zgf, Zgg, Zgh, Zgi, Zgj, Zgk, Zgl, Zgm, Nat.reduceSub, Nat.reducePow, Nat.reduceDiv, Nat.reduceMod, end0s, end1s, endS0s, endS1s, Zgn, ln_9, keep_4, E_masks, masks, E_rows, Tryz.f4, awake_509, strB_size, h3000]
    exact ⟨_, _, rfl⟩
  · have hok := readS_ok s
    have hlen := readS_len s
    have hc13 := fun n h => c13 n h s
    have hc15 := fun n h => c15 n h s
    have hc14 := fun n h => c14 n h (incsV (readS s).1) (incsV (readS s).1) _ _ (incsV_sl h _) (incsV_sl h _) hok hok (by omega)
    have hc11 := fun n h => c11 n h (incsV (readS s).1) _ hok (incsV_sl h _) (by omega)
    have hd : decide ((readS s).1 = (readS s).1) = true := by simp
    have hne : ((readS s).2 != (readS s).2) = false := by simp
    by_cases h0 : (readS s).2 = 0
    · have hp := print_read h0
      rw [hp] at hc11
      have h1 : ((readS s).2 != 0) = false := by simp [h0]
      have hse : ∀ ox oy, binE E.P .eql 9 ox oy (.v (.string (strB s))) (.v (.string (strB s))) = some (.v (.bool (s == s))) := fun ox oy => Zfc (a := s) (b := s)
      have hss : (s == s) = true := by simp
      simp -implicitDefEqProofs only [Zaa, Zab, Zac, Zad, Zae, Zaf, Zag, Zah, Zai, Zaj, Zak, Zal, Zam, Zan, Zao, Zap, Zaq, Zar, Zas, Zat, Zau, Zav, Zaw, Zax, Zay, Zaz, Zba, Zbb, Zbc, Zbd, Zbe, Zbf, Zbg, Zbh, Zbi, Zbj, Zbk, Zbl, Zbm, Zbn, Zbo, Zbp, Zbq, Zbr, Zbs, Zbt, Zbu, Zbv, Zbw, Zbx, Zby, Zbz, Zca, Zcb, Zcc, Zcd, Zce, Zcf, Zcg, Zch, Zci, Zcj, Zck, Zcl, Zcm, Zcn, Zco, Zcp, exL, Zcq, Zcr, nlC, Zcs, Zct, Zcu, Zcv, Zcw, Zcx, Zcy, Zcz, Zda, Zdb, Zdc, Zdd, Zde, Zdf, Zdg, Zdh, Zdi, Zdj, Zdk, Zdl, Zdm, Zdn, Zdo, Zdp, Zdq, Zdr, Zds, Zdt, Zdu, Zdv, Zdw, Zdx, Zdy, Zdz, Zea, Zeb, Zec, Zed, Zee, Zef, Zeg, Zeh, Zei, Zej, end0, end1, endS0, endS1, args0, oneOrTup, cond_true, cond_false, ite_true, ite_false, bleE, bltE, beqE, decide_true, decide_false, Bool.not_false, Bool.not_true, Bool.and_true, Bool.true_and, Bool.and_false, Bool.false_and, Nat.reduceAdd, Nat.reduceLT, Nat.reduceEqDiff, Nat.reduceLeDiff, Nat.reduceMul, leafsL, idfree, idfreeL, loadE, Zek, Zel, partE, fieldAddrE, nav, navL, List.nil_append, List.cons_append, List.append_assoc, List.getElem?_cons_zero, List.getElem?_cons_succ, List.length_cons, List.length_nil, beq_self_eq_true, Bool.true_beq, Bool.false_beq, Zem, Zen, Zeo, Zep, Zeq, frz, frzL, List.getElem?_toArray, Option.bind_some, Int.cast_ofNat_Int, Int.reduceBEq, Int.reduceBNe, Int.reduceLT, Int.reduceLE, Int.reduceAdd, Int.reduceSub, Int.reduceMul, Int.reduceNeg, Zer, Zes, Zet, Zeu, Zev, Zew, Zex, Zey, Zez, Zfa, Zfb, Zfc, Zfd, List.isEmpty_nil, List.isEmpty_cons, Zfe, Zff, Zfg, Zfh, vInt, Option.getD_some, Option.getD_none, List.set_cons_zero, List.set_cons_succ, put, putL, setParts, List.length_append, List.length_set, Zfi, Zfj, Zfk, Zfl, Zfm, Zfn, Zfo, Zfp, Zfq, Zfr, loopB, loopsIn, List.getD_cons_zero, List.getD_cons_succ, Zfs, Zft, Zfu, Zfv, Zfw, Zfx, Zfy, Zfz, Zga, Zgb, Zgc, Zgd, Zge, Zgf, Zgg, Zgh, Zgi, Zgj, Zgk, Zgl, Zgm, Nat.reduceSub, Nat.reducePow, Nat.reduceDiv, Nat.reduceMod, end0s, end1s, endS0s, endS1s, Zgn, ln_9, keep_4, E_masks, masks, E_rows, Tryz.f4, awake_509, strB_size, h3000, hc13, hc15, hc14, hc11, hd, hne, h1, hse, hss]
      exact ⟨_, _, rfl⟩
    · have h1 : ((readS s).2 != 0) = true := by simp [h0]
      simp -implicitDefEqProofs only [Zaa, Zab, Zac, Zad, Zae, Zaf, Zag, Zah, Zai, Zaj, Zak, Zal, Zam, Zan, Zao, Zap, Zaq, Zar, Zas, Zat, Zau, Zav, Zaw, Zax, Zay, Zaz, Zba, Zbb, Zbc, Zbd, Zbe, Zbf, Zbg, Zbh, Zbi, Zbj, Zbk, Zbl, Zbm, Zbn, Zbo, Zbp, Zbq, Zbr, Zbs, Zbt, Zbu, Zbv, Zbw, Zbx, Zby, Zbz, Zca, Zcb, Zcc, Zcd, Zce, Zcf, Zcg, Zch, Zci, Zcj, Zck, Zcl, Zcm, Zcn, Zco, Zcp, exL, Zcq, Zcr, nlC, Zcs, Zct, Zcu, Zcv, Zcw, Zcx, Zcy, Zcz, Zda, Zdb, Zdc, Zdd, Zde, Zdf, Zdg, Zdh, Zdi, Zdj, Zdk, Zdl, Zdm, Zdn, Zdo, Zdp, Zdq, Zdr, Zds, Zdt, Zdu, Zdv, Zdw, Zdx, Zdy, Zdz, Zea, Zeb, Zec, Zed, Zee, Zef, Zeg, Zeh, Zei, Zej, end0, end1, endS0, endS1, args0, oneOrTup, cond_true, cond_false, ite_true, ite_false, bleE, bltE, beqE, decide_true, decide_false, Bool.not_false, Bool.not_true, Bool.and_true, Bool.true_and, Bool.and_false, Bool.false_and, Nat.reduceAdd, Nat.reduceLT, Nat.reduceEqDiff, Nat.reduceLeDiff, Nat.reduceMul, leafsL, idfree, idfreeL, loadE, Zek, Zel, partE, fieldAddrE, nav, navL, List.nil_append, List.cons_append, List.append_assoc, List.getElem?_cons_zero, List.getElem?_cons_succ, List.length_cons, List.length_nil, beq_self_eq_true, Bool.true_beq, Bool.false_beq, Zem, Zen, Zeo, Zep, Zeq, frz, frzL, List.getElem?_toArray, Option.bind_some, Int.cast_ofNat_Int, Int.reduceBEq, Int.reduceBNe, Int.reduceLT, Int.reduceLE, Int.reduceAdd, Int.reduceSub, Int.reduceMul, Int.reduceNeg, Zer, Zes, Zet, Zeu, Zev, Zew, Zex, Zey, Zez, Zfa, Zfb, Zfc, Zfd, List.isEmpty_nil, List.isEmpty_cons, Zfe, Zff, Zfg, Zfh, vInt, Option.getD_some, Option.getD_none, List.set_cons_zero, List.set_cons_succ, put, putL, setParts, List.length_append, List.length_set, Zfi, Zfj, Zfk, Zfl, Zfm, Zfn, Zfo, Zfp, Zfq, Zfr, loopB, loopsIn, List.getD_cons_zero, List.getD_cons_succ, Zfs, Zft, Zfu, Zfv, Zfw, Zfx, Zfy, Zfz, Zga, Zgb, Zgc, Zgd, Zge, Zgf, Zgg, Zgh, Zgi, Zgj, Zgk, Zgl, Zgm, Nat.reduceSub, Nat.reducePow, Nat.reduceDiv, Nat.reduceMod, end0s, end1s, endS0s, endS1s, Zgn, ln_9, keep_4, E_masks, masks, E_rows, Tryz.f4, awake_509, strB_size, h3000, hc13, hc15, hc14, hc11, hd, hne, h1]
      exact ⟨_, _, rfl⟩

theorem own : ownKnob Tryz.prog.godebug = none := by kernel_rfl
theorem laidOut : laidOutB Tryz.prog = true := by kernel_rfl

set_option maxRecDepth 100000 in
theorem incrReads_lifted (os : Os) (started : os.Started) (H : Type) (enc : TypeId × Value → H) :
    ReturnsInHanded {} Tryz.checked os 4 .any (Rows.incrReadsSpec.pre6 enc Tryz.prog Tryz.f4 Rows.incrReadsRow.domain false) (Rows.incrReadsSpec.post enc Tryz.prog Tryz.f4 false true false false) := by
  refine returnsInHanded_of_change (C := Tryz.checked) own started (by kernel_rfl) Tryz.func4
    (ChangeSpec.witness6 (enc := enc) (C := Tryz.checked) false ⟨#[], #[.string ⟨#[]⟩], []⟩ 8 (by kernel_rfl) (by kernel_rfl) (by kernel_rfl) (by kernel_rfl)) ?_
  intro W base args ds gs before hval0 hW hcnd _
  have hval : ∀ (j : Nat) t v, Tryz.f4.params[j]? = some t → args[j]? = some v → Value.okWide Tryz.prog W .any base t v := hval0
  have hW' := hW
  obtain ⟨p, q, hA0, hV, rfl, hfz, hnd⟩ := hW
  have hA : DataW.TrodAll enc Tryz.prog W 0 (fun _ => true) true Tryz.f4.params.toList args.toList ds p := hA0
  rw [Tryz.params4] at hA hval
  obtain ⟨v0, d0, rfl, rfl, h0⟩ := trodAll_one hA
  obtain ⟨rfl, rfl⟩ := trodVars_none hV
  obtain ⟨s, rfl, hs⟩ := arg_string Tryz.underlying9 (hval 0 9 v0 rfl rfl) h0
  obtain ⟨h, e, hcall⟩ := incrReads_true s.data.toList
  have hs2 : strB s.data.toList = s := by unfold strB; rw [Array.toArray_toList]
  rw [hs2] at hcall
  obtain ⟨c, hc⟩ : ∃ c, Tryz.f4.body = some c := ⟨_, rfl⟩
  refine (law_calls e_ok (f := 4) Tryz.func4 hc rfl hcall (vs := [.string s]) (by simp only [VL]; exact ⟨.string s, [], ⟨rfl, rfl⟩, rfl, rfl⟩)).mono fun e W' ⟨he, hb⟩ => ?_
  subst he
  exact ⟨_, rfl, law_post laidOut rfl rfl ut4 (by kernel_rfl) hW' rfl hb⟩

theorem incrReads_holds : Rows.IncrReadsSaid :=
  OpenClaim.holds_of_wide 4 Tryz.f4 rfl rfl rfl rfl rfl rfl rfl ⟨rfl, rfl, rfl, rfl, rfl⟩ rfl rfl rfl rfl rfl (by kernel_rfl) Tryz.func4 (by kernel_rfl)
    (of_decide_eq_true (by kernel_rfl)) (by unfold Func.isWrapper; first | (rw [if_pos (by decide +kernel)]; kernel_rfl) | (rw [if_neg (by decide +kernel)]; exact ⟨rfl, rfl⟩))
    (fun os started H enc _ => incrReads_lifted os started H enc)

end Go.Proofs.YtobdjegooonklaaGreat
