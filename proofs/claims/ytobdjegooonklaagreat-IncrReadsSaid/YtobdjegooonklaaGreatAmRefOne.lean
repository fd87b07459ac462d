/- What the reference's reading of a prefix does: the same. Conditions: none. -/
import Derived.Test.YtobdjegooonklaaGreatAmRefRd
set_option linter.unusedSimpArgs false
set_option linter.unusedVariables false
namespace Go.Proofs.YtobdjegooonklaaGreat
open Go Go.AM

theorem fin_rq {h l : Heap} {id : Nat} {ds : List Nat} {a b : Rd} {r r' : AV} (hd : D id ds a b) (hr : h[id]? = some (rdq a)) : ∃ ds' q, some (fzO h r (h.set id (rdq b) ++ l) ds (some r')) = some (r', h.set id (rdq b), ⟨ds', [], q⟩) ∧ D id ds' a b := by
  obtain ⟨ds', q', g1, g2⟩ := fz_rq (l := l) (r := r) (r' := r') hd hr
  exact ⟨_, _, congrArg some g1, g2⟩

theorem padded_set {pre : List UInt8} {b : UInt8} (h : pre.length < 16) : (padded pre).set pre.length b = padded (pre ++ [b]) := by
  unfold padded
  rw [List.set_append_right _ _ (Nat.le_refl _), Nat.sub_self]
  have hd : (List.replicate 16 (0 : UInt8)).drop pre.length = 0 :: (List.replicate 16 0).drop (pre.length + 1) := by
    rw [List.drop_eq_getElem_cons (by simpa using h), List.getElem_replicate]
  rw [hd]
  simp

theorem loop42 (n : Nat) (h : Heap) (id : Nat) (y c1 : Row) (six : Bool) (len : Int) (s : List UInt8) (ds : List Nat) (hs : s.length ≤ 16) : ∀ (rest pre : List UInt8) (j : Nat) (fr : FR), pre ++ rest = s → rest.length < j → keepF (masks 42) fr = [(2, rp h.length), (5, rp (h.length + 1)), (6, .v (.string (strB s))), (7, .v (.int .i64 (pre.length : Nat)))] →
    ∃ fr', loopN (exec E (call E (n + 502)) (n + 502) 42 68 h.length (loopB Tryz.f42 0)) (masks 42) j ⟨fr, h.set id y ++ [c1, .row 18 0 [.agg [.v (.bool six), .agg (ofBytes (padded pre)), .v (.int .i64 len)]] ⟨true, 55⟩], ds, []⟩ = some (.exit 0, ⟨fr', h.set id y ++ [c1, .row 18 0 [.agg [.v (.bool six), .agg (ofBytes (padded s)), .v (.int .i64 len)]] ⟨true, 55⟩], ds, []⟩) ∧
      AM.get fr' 2 = some (rp h.length) ∧ AM.get fr' 5 = some (rp (h.length + 1))
  | [], pre, j, fr, hp, hj, hk => by
    obtain ⟨j, rfl⟩ : ∃ i, j = i + 1 := ⟨j - 1, by simp at hj; omega⟩
    rw [List.append_nil] at hp
    subst hp
    have hi : ¬ ((pre.length : Int) < pre.length) := by omega
    have he : ∃ fr', exec E (call E (n + 502)) (n + 502) 42 68 h.length (loopB Tryz.f42 0) ⟨keepF (masks 42) fr, h.set id y ++ [c1, .row 18 0 [.agg [.v (.bool six), .agg (ofBytes (padded pre)), .v (.int .i64 len)]] ⟨true, 55⟩], ds, []⟩ = some (.exit 0, ⟨fr', h.set id y ++ [c1, .row 18 0 [.agg [.v (.bool six), .agg (ofBytes (padded pre)), .v (.int .i64 len)]] ⟨true, 55⟩], ds, []⟩) ∧
      AM.get fr' 2 = some (rp h.length) ∧ AM.get fr' 5 = some (rp (h.length + 1)) := by
      rw [hk, exec_code]
      simp -implicitDefEqProofs only [Zaa, Zab, Zac, Zad, Zae, Zaf, Zag, Zah, Zai, Zaj, Zak, Zal, Zam, Zan, Zao, Zap, Zaq, Zar, Zas, Zat, Zau, Zav, Zaw, Zax, Zay, Zaz, Zba, Zbb, Zbc, Zbd, Zbe, Zbf, Zbg, Zbh, Zbi, Zbj, Zbk, Zbl, Zbm, Zbn, Zbo, Zbp, Zbq, Zbr, Zbs, Zbt, Zbu, Zbv, Zbw, Zbx, Zby, Zbz, Zca, Zcb, Zcc, Zcd, Zce, Zcf, Zcg, Zch, Zci, Zcj, Zck, Zcl, Zcm, Zcn, Zco, Zcp, exL, Zcq, Zcr, nlC, Zcs, Zct, Zcu, Zcv, Zcw, Zcx, Zcy, Zcz, Zda, Zdb, Zdc, Zdd, Zde, Zdf, Zdg, Zdh, Zdi, Zdj, Zdk, Zdl, Zdm, Zdn, Zdo, Zdp, Zdq, Zdr, Zds, Zdt, Zdu, Zdv, Zdw, Zdx, Zdy, Zdz, Zea, Zeb, Zec, Zed, Zee, Zef, Zeg, Zeh, Zei, Zej, end0, end1, endS0, endS1, args0, oneOrTup, cond_true, cond_false, ite_true, ite_false, bleE, bltE, beqE, decide_true, decide_false, Bool.not_false, Bool.not_true, Bool.and_true, Bool.true_and, Bool.and_false, Bool.false_and, Nat.reduceAdd, Nat.reduceLT, Nat.reduceEqDiff, Nat.reduceLeDiff, Nat.reduceMul, leafsL, idfree, idfreeL, loadE, Zek, Zel, partE, fieldAddrE, nav, navL, List.nil_append, List.cons_append, List.append_assoc, List.getElem?_cons_zero, List.getElem?_cons_succ, List.length_cons, List.length_nil, beq_self_eq_true, Bool.true_beq, Bool.false_beq, Zem, Zen, Zeo, Zep, Zeq, frz, frzL, List.getElem?_toArray, Option.bind_some, Int.cast_ofNat_Int, Int.reduceBEq, Int.reduceBNe, Int.reduceLT, Int.reduceLE, Int.reduceAdd, Int.reduceSub, Int.reduceMul, Int.reduceNeg, Zer, Zes, Zet, Zeu, Zev, Zew, Zex, Zey, Zez, Zfa, Zfb, Zfc, Zfd, List.isEmpty_nil, List.isEmpty_cons, Zfe, Zff, Zfg, Zfh, vInt, Option.getD_some, Option.getD_none, List.set_cons_zero, List.set_cons_succ, put, putL, setParts, List.length_append, List.length_set, Zfi, Zfj, Zfk, Zfl, Zfm, Zfn, Zfo, Zfp, Zfq, Zfr, loopB, loopsIn, List.getD_cons_zero, List.getD_cons_succ, Zfs, Zft, Zfu, Zfv, Zfw, Zfx, Zfy, Zfz, Zga, Zgb, Zgc, Zgd, Zge, Zgf, Zgg, Zgh, Zgi, Zgj, Zgk, Zgl, Zgm, Nat.reduceSub, Nat.reducePow, Nat.reduceDiv, Nat.reduceMod, end0s, end1s, endS0s, endS1s, Zgn, zero_55, cv_5_3, fo_86_1, sz_3, agg_3, prs_42_3, bd_55, sz_55, prs_42_7, fo_55_2, fo_55_0, sz_4, agg_4, prs_42_11, ln_9, und_9, fo_55_1, und_53, sz_5, agg_5, agg_55, keep_42, E_masks, masks, E_rows, Tryz.f42, strB_size, hi]
      exact ⟨_, rfl, rfl, rfl⟩
    obtain ⟨fr', he, g2, g3⟩ := he
    exact ⟨fr', loopN_out he, g2, g3⟩
  | b :: rest, pre, j, fr, hp, hj, hk => by
    obtain ⟨j, rfl⟩ : ∃ i, j = i + 1 := ⟨j - 1, by simp at hj; omega⟩
    have hlen : s.length = pre.length + (rest.length + 1) := by rw [← hp]; simp
    have hi : ((pre.length : Int) < s.length) := by omega
    have hi16 : pre.length < 16 := by omega
    have hb : s[pre.length]? = some b := by rw [← hp]; simp
    have hix : indexE E.P 9 (.v (.string (strB s))) (.v (.int .i64 (pre.length : Nat))) = some (.v (.int .u8 b.toNat)) := idx_str und_9 (by omega) (by simpa using hb)
    have ia : ∀ (h : Heap) (id : Nat), indexAddrE E.P h 53 (.ptr id 0 0 [1] 1) (.v (.int .i64 (pre.length : Nat))) = some (.ptr id 0 0 [1, pre.length] (1 + pre.length)) := fun h id => by
      have := ia_arr (P := E.P) (h := h) (t := 53) (id := id) (g := 0) (i := 0) (o := 1) (j := pre.length) (p := [1]) und_53 sz_5 hi16
      simpa using this
    have hpl : (padded pre).length = 16 := by simp [padded]; omega
    have hpt := putL_bytes (l := padded pre) (j := pre.length) (b := b) (by omega)
    rw [padded_set hi16] at hpt
    have hp2 : (padded (pre ++ [b])).length = 16 := by simp [padded]; omega
    have e1 : leafsL (ofBytes (padded pre)) = 16 := by rw [leafs_ofBytes, hpl]
    have e2 : leafsL (ofBytes (padded (pre ++ [b]))) = 16 := by rw [leafs_ofBytes, hp2]
    have hsub : 1 + pre.length - 1 = pre.length := by omega
    have h17 : decide (1 + pre.length < 17) = true := decide_eq_true (by omega)
    have h18 : decide (1 + pre.length < 1) = false := decide_eq_false (by omega)
    have h19 : decide (1 ≤ 1 + pre.length) = true := decide_eq_true (by omega)
    have h20 : ¬ (16 ≤ pre.length) := by omega
    have w1 := wrapN1 (n := pre.length) (by omega)
    have he : ∃ fr', exec E (call E (n + 502)) (n + 502) 42 68 h.length (loopB Tryz.f42 0) ⟨keepF (masks 42) fr, h.set id y ++ [c1, .row 18 0 [.agg [.v (.bool six), .agg (ofBytes (padded pre)), .v (.int .i64 len)]] ⟨true, 55⟩], ds, []⟩ = some (.normal, ⟨fr', h.set id y ++ [c1, .row 18 0 [.agg [.v (.bool six), .agg (ofBytes (padded (pre ++ [b]))), .v (.int .i64 len)]] ⟨true, 55⟩], ds, []⟩) ∧
      keepF (masks 42) fr' = [(2, rp h.length), (5, rp (h.length + 1)), (6, .v (.string (strB s))), (7, .v (.int .i64 ((pre.length + 1 : Nat) : Int)))] := by
      rw [hk, exec_code]
      simp -implicitDefEqProofs only [Zaa, Zab, Zac, Zad, Zae, Zaf, Zag, Zah, Zai, Zaj, Zak, Zal, Zam, Zan, Zao, Zap, Zaq, Zar, Zas, Zat, Zau, Zav, Zaw, Zax, Zay, Zaz, Zba, Zbb, Zbc, Zbd, Zbe, Zbf, Zbg, Zbh, Zbi, Zbj, Zbk, Zbl, Zbm, Zbn, Zbo, Zbp, Zbq, Zbr, Zbs, Zbt, Zbu, Zbv, Zbw, Zbx, Zby, Zbz, Zca, Zcb, Zcc, Zcd, Zce, Zcf, Zcg, Zch, Zci, Zcj, Zck, Zcl, Zcm, Zcn, Zco, Zcp, exL, Zcq, Zcr, nlC, Zcs, Zct, Zcu, Zcv, Zcw, Zcx, Zcy, Zcz, Zda, Zdb, Zdc, Zdd, Zde, Zdf, Zdg, Zdh, Zdi, Zdj, Zdk, Zdl, Zdm, Zdn, Zdo, Zdp, Zdq, Zdr, Zds, Zdt, Zdu, Zdv, Zdw, Zdx, Zdy, Zdz, Zea, Zeb, Zec, Zed, Zee, Zef, Zeg, Zeh, Zei, Zej, end0, end1, endS0, endS1, args0, oneOrTup, cond_true, cond_false, ite_true, ite_false, bleE, bltE, beqE, decide_true, decide_false, Bool.not_false, Bool.not_true, Bool.and_true, Bool.true_and, Bool.and_false, Bool.false_and, Nat.reduceAdd, Nat.reduceLT, Nat.reduceEqDiff, Nat.reduceLeDiff, Nat.reduceMul, leafsL, idfree, idfreeL, loadE, Zek, Zel, partE, fieldAddrE, nav, navL, List.nil_append, List.cons_append, List.append_assoc, List.getElem?_cons_zero, List.getElem?_cons_succ, List.length_cons, List.length_nil, beq_self_eq_true, Bool.true_beq, Bool.false_beq, Zem, Zen, Zeo, Zep, Zeq, frz, frzL, List.getElem?_toArray, Option.bind_some, Int.cast_ofNat_Int, Int.reduceBEq, Int.reduceBNe, Int.reduceLT, Int.reduceLE, Int.reduceAdd, Int.reduceSub, Int.reduceMul, Int.reduceNeg, Zer, Zes, Zet, Zeu, Zev, Zew, Zex, Zey, Zez, Zfa, Zfb, Zfc, Zfd, List.isEmpty_nil, List.isEmpty_cons, Zfe, Zff, Zfg, Zfh, vInt, Option.getD_some, Option.getD_none, List.set_cons_zero, List.set_cons_succ, put, putL, setParts, List.length_append, List.length_set, Zfi, Zfj, Zfk, Zfl, Zfm, Zfn, Zfo, Zfp, Zfq, Zfr, loopB, loopsIn, List.getD_cons_zero, List.getD_cons_succ, Zfs, Zft, Zfu, Zfv, Zfw, Zfx, Zfy, Zfz, Zga, Zgb, Zgc, Zgd, Zge, Zgf, Zgg, Zgh, Zgi, Zgj, Zgk, Zgl, Zgm, Nat.reduceSub, Nat.reducePow, Nat.reduceDiv, Nat.reduceMod, end0s, end1s, endS0s, endS1s, Zgn, zero_55, cv_5_3, fo_86_1, sz_3, agg_3, prs_42_3, bd_55, sz_55, prs_42_7, fo_55_2, fo_55_0, sz_4, agg_4, prs_42_11, ln_9, und_9, fo_55_1, und_53, sz_5, agg_5, agg_55, keep_42, E_masks, masks, E_rows, Tryz.f42, strB_size, hi, hix, ia, storeE, hpt, e1, e2, hsub, h17, h18, h19, h20, w1]
      exact ⟨_, rfl, rfl⟩
    obtain ⟨fr1, he, hk1⟩ := he
    have hlen2 : (pre ++ [b]).length = pre.length + 1 := by simp
    obtain ⟨fr', g1, g2, g3⟩ := loop42 n h id y c1 six len s ds hs rest (pre ++ [b]) j fr1 (by rw [← hp]; simp) (by simp at hj; omega) (by rw [hlen2]; exact hk1)
    exact ⟨fr', by rw [loopN_step he, g1], g2, g3⟩

theorem padded_nil : padded [] = List.replicate 16 0 := by simp [padded]

theorem pre_eq (r : Rd) {c : UInt8} {r1 : Rd} (hb : r.byte = (c, r1)) {six : Bool} {len : Int} (h : (64 ≤ (c.toNat : Int) ∧ six = true ∧ len = (c.toNat : Int) - 64) ∨ (¬ 64 ≤ (c.toNat : Int) ∧ six = false ∧ len = (c.toNat : Int))) :
    r.pre = (if r1.e ≠ 0 then (zeroPre, r1.e, r1) else if width six < len then (zeroPre, 4, r1) else if (r1.raw ((len + 7) / 8)).2.e ≠ 0 then (zeroPre, (r1.raw ((len + 7) / 8)).2.e, (r1.raw ((len + 7) / 8)).2) else
      if right ⟨six, padded (r1.raw ((len + 7) / 8)).1, len⟩ = false then (zeroPre, 4, (r1.raw ((len + 7) / 8)).2) else (⟨six, padded (r1.raw ((len + 7) / 8)).1, len⟩, 0, (r1.raw ((len + 7) / 8)).2)) := by
  unfold Rd.pre
  rw [hb]
  dsimp only
  rcases h with ⟨h1, rfl, rfl⟩ | ⟨h1, rfl, rfl⟩
  · rw [if_pos h1, decide_eq_true h1]
  · rw [if_neg h1, decide_eq_false h1]

theorem c42 (n : Nat) (h : Heap) (id : Nat) (r : Rd) (hr : h[id]? = some (rdq r)) : ∃ ds q, call E (n + 503) 42 [rp id] h = some (.tup [r.pre.1.av, .v (.int .i64 r.pre.2.1)], h.set id (rdq r.pre.2.2), ⟨ds, [], q⟩) ∧ D id ds r r.pre.2.2 := by
  have hlt : id < h.length := (List.getElem?_eq_some_iff.1 hr).1
  have hrz : (h ++ [Row.row 18 0 [.agg [.v (.bool false), .agg (ofBytes (List.replicate 16 0)), .v (.int .i64 0)]] ⟨true, 55⟩])[id]? = some (rdq r) := by rw [app_get hlt]; exact hr
  obtain ⟨d1, q1, hc1, hd1⟩ := c41 n (h ++ [Row.row 18 0 [.agg [.v (.bool false), .agg (ofBytes (List.replicate 16 0)), .v (.int .i64 0)]] ⟨true, 55⟩]) id r hrz
  rw [set_app hlt] at hc1
  have hcl := r.byte.1.toNat_lt
  have w0 : IntKind.i64.wrap (r.byte.1.toNat : Int) = (r.byte.1.toNat : Int) := wrapN (by omega)
  have hpre := @pre_eq r r.byte.1 r.byte.2 rfl
  generalize r.byte = bb at *
  obtain ⟨c, r1⟩ := bb
  simp only at hc1 hd1 hcl w0 hpre
  obtain ⟨six, len, hcase⟩ : ∃ (six : Bool) (len : Int), (64 ≤ (c.toNat : Int) ∧ six = true ∧ len = (c.toNat : Int) - 64) ∨ (¬ 64 ≤ (c.toNat : Int) ∧ six = false ∧ len = (c.toNat : Int)) := by
    by_cases h64 : 64 ≤ (c.toNat : Int)
    · exact ⟨_, _, .inl ⟨h64, rfl, rfl⟩⟩
    · exact ⟨_, _, .inr ⟨h64, rfl, rfl⟩⟩
  replace hpre := hpre hcase
  have hlt1 : id < (h.set id (rdq r1)).length := by simpa using hlt
  have hr1 : ∀ l, (h.set id (rdq r1) ++ l)[id]? = some (rdq r1) := fun l => by rw [app_get hlt1, set_get hlt]
  have hr1' : ∀ l, (h.set id (rdq r1) ++ l)[id]? = some (.row 2 0 [.agg [.v (.string (strB r1.s)), .v (.int .i64 r1.e)]] ⟨true, 86⟩) := hr1
  have hl0 : 0 ≤ len ∧ len ≤ 255 := by rcases hcase with ⟨_, _, rfl⟩ | ⟨_, _, rfl⟩ <;> omega
  have w1 : IntKind.i64.wrap (len + 7) = len + 7 := wrap_i64 (by omega) (by omega)
  have w2 : IntKind.i64.wrap ((len + 7).tdiv 8) = (len + 7) / 8 := by
    rw [Int.tdiv_eq_ediv_of_nonneg (by omega)]
    exact wrap_i64 (by omega) (by omega)
  have w3 : IntKind.i64.wrap ((c.toNat : Int) - 64) = (c.toNat : Int) - 64 := wrap_i64 (by omega) (by omega)
  have hz2 : leafsL (ofBytes (List.replicate 16 (0 : UInt8))) = 16 := by rw [leafs_ofBytes]; rfl
  have hidne : decide (id = h.length) = false := decide_eq_false (by omega)
  have hD1 := D.merge (D.refl id r) hd1 hlt
  by_cases he1 : r1.e = 0
  · have e1 : (r1.e != 0) = false := by simp [he1]
    rw [if_neg (by simp [he1])] at hpre
    by_cases hw : width six < len
    · rw [if_pos hw] at hpre
      rw [hpre, call_at (E := E) (f := 42) (fn := Tryz.f42) rfl Tryz.func42 rfl (Nat.le_of_ble_eq_true rfl)]
      rcases hcase with ⟨h64, rfl, rfl⟩ | ⟨h64, rfl, rfl⟩ <;>
      · simp -implicitDefEqProofs only [Zaa, Zab, Zac, Zad, Zae, Zaf, Zag, Zah, Zai, Zaj, Zak, Zal, Zam, Zan, Zao, Zap, Zaq, Zar, Zas, Zat, Zau, Zav, Zaw, Zax, Zay, Zaz, Zba, Zbb, Zbc, Zbd, Zbe, Zbf, Zbg, Zbh, Zbi, Zbj, Zbk, Zbl, Zbm, Zbn, Zbo, Zbp, Zbq, Zbr, Zbs, Zbt, Zbu, Zbv, Zbw, Zbx, Zby, Zbz, Zca, Zcb, Zcc, Zcd, Zce, Zcf, Zcg, Zch, Zci, Zcj, Zck, Zcl, Zcm, Zcn, Zco, Zcp, exL, Zcq, Zcr, nlC, Zcs, Zct, Zcu, Zcv, Zcw, Zcx, Zcy, Zcz, Zda, Zdb, Zdc, Zdd, Zde, Zdf, Zdg, Zdh, Zdi, Zdj, Zdk, Zdl, Zdm, Zdn, Zdo, Zdp, Zdq, Zdr, Zds, Zdt, Zdu, Zdv, Zdw, Zdx, Zdy, Zdz, Zea, Zeb, Zec, Zed, Zee, Zef, Zeg, Zeh, Zei, Zej, end0, end1, endS0, endS1, args0, oneOrTup, cond_true, cond_false, ite_true, ite_false, bleE, bltE, beqE, decide_true, decide_false, Bool.not_false, Bool.not_true, Bool.and_true, Bool.true_and, Bool.and_false, Bool.false_and, Nat.reduceAdd, Nat.reduceLT, Nat.reduceEqDiff, Nat.reduceLeDiff, Nat.reduceMul, leafsL, idfree, idfreeL, loadE, Zek, Zel, partE, fieldAddrE, nav, navL, List.nil_append, List.cons_append, List.append_assoc, List.getElem?_cons_zero, List.getElem?_cons_succ, List.length_cons, List.length_nil, beq_self_eq_true, Bool.true_beq, Bool.false_beq, Zem, Zen, Zeo, Zep, Zeq, frz, frzL, List.getElem?_toArray, Option.bind_some, Int.cast_ofNat_Int, Int.reduceBEq, Int.reduceBNe, Int.reduceLT, Int.reduceLE, Int.reduceAdd, Int.reduceSub, Int.reduceMul, Int.reduceNeg, Zer, Zes, Zet, Zeu, Zev, Zew, Zex, Zey, Zez, Zfa, Zfb, Zfc, Zfd, List.isEmpty_nil, List.isEmpty_cons, Zfe, Zff, Zfg, Zfh, vInt, Option.getD_some, Option.getD_none, List.set_cons_zero, List.set_cons_succ, put, putL, setParts, List.length_append, List.length_set, Zfi, Zfj, Zfk, Zfl, Zfm, Zfn, Zfo, Zfp, Zfq, Zfr, loopB, loopsIn, List.getD_cons_zero, List.getD_cons_succ, Zfs, Zft, Zfu, Zfv, Zfw, Zfx, Zfy, Zfz, Zga, Zgb, Zgc, Zgd, Zge, Zgf, Zgg, Zgh, Zgi, Zgj, Zgk, Zgl, Zgm, Nat.reduceSub, Nat.reducePow, Nat.reduceDiv, Nat.reduceMod, end0s, end1s, endS0s, endS1s, Zgn, zero_55, cv_5_3, fo_86_1, sz_3, agg_3, prs_42_3, bd_55, sz_55, prs_42_7, fo_55_2, fo_55_0, sz_4, agg_4, prs_42_11, ln_9, und_9, fo_55_1, und_53, sz_5, agg_5, agg_55, keep_42, E_masks, masks, E_rows, Tryz.f42, rep16, hz2, hc1, w0, w3, hr1', e1, h64, c81, hw, storeE, frzL_bytes, pairsOK, clsOf, compat, hidne]
        exact fin_rq hD1 hr
    · rw [if_neg hw] at hpre
      have hwid := width_le six
      obtain ⟨d2, q2, hc2, hd2⟩ := c80 (n + 1) (h.set id (rdq r1) ++ [Row.row 18 0 [.agg [.v (.bool false), .agg (ofBytes (List.replicate 16 0)), .v (.int .i64 0)]] ⟨true, 55⟩, Row.row 18 0 [.agg [.v (.bool six), .agg (ofBytes (List.replicate 16 0)), .v (.int .i64 len)]] ⟨true, 55⟩]) id r1 ((len + 7) / 8) (hr1 _)
      simp only [Nat.add_assoc, Nat.reduceAdd] at hc2
      rw [set_app hlt1, List.set_set] at hc2
      have hs16 := raw_len r1 ((len + 7) / 8)
      generalize r1.raw ((len + 7) / 8) = sr at *
      obtain ⟨s, r2⟩ := sr
      simp only at hc2 hd2 hpre hs16
      have hr2' : ∀ l, (h.set id (rdq r2) ++ l)[id]? = some (.row 2 0 [.agg [.v (.string (strB r2.s)), .v (.int .i64 r2.e)]] ⟨true, 86⟩) := fun l => by rw [app_get (by simpa using hlt), set_get hlt]; rfl
      have hD := hD1.merge hd2 hlt
      by_cases he2 : r2.e = 0
      · have e2 : (r2.e != 0) = false := by simp [he2]
        rw [if_neg (by simp [he2])] at hpre
        have hsl : s.length ≤ 16 := by omega
        have hpl : (padded s).length = 16 := by simp [padded]; omega
        have hqok : Pre.ok ⟨six, padded s, len⟩ := ⟨hpl, by unfold i64; show _ ≤ len ∧ len ≤ _; omega⟩
        have hc71 := fun n h => c71' n h ⟨six, padded s, len⟩ hqok
        simp only [Pre.av] at hc71
        have hz3 : leafsL (ofBytes (padded s)) = 16 := by rw [leafs_ofBytes]; exact hpl
        obtain ⟨fr', g1, g2, g3⟩ := loop42 n h id (rdq r2) (Row.row 18 0 [.agg [.v (.bool false), .agg (ofBytes (List.replicate 16 0)), .v (.int .i64 0)]] ⟨true, 55⟩) six len s (mergeLt h.length d2 (mergeLt h.length d1 [])) hsl s [] (n + 502) [(2, rp h.length), (5, rp (h.length + 1)), (6, .v (.string (strB s))), (7, .v (.int .i64 0))] rfl (by omega) rfl
        rw [padded_nil] at g1
        simp -implicitDefEqProofs only [Zaa, Zab, Zac, Zad, Zae, Zaf, Zag, Zah, Zai, Zaj, Zak, Zal, Zam, Zan, Zao, Zap, Zaq, Zar, Zas, Zat, Zau, Zav, Zaw, Zax, Zay, Zaz, Zba, Zbb, Zbc, Zbd, Zbe, Zbf, Zbg, Zbh, Zbi, Zbj, Zbk, Zbl, Zbm, Zbn, Zbo, Zbp, Zbq, Zbr, Zbs, Zbt, Zbu, Zbv, Zbw, Zbx, Zby, Zbz, Zca, Zcb, Zcc, Zcd, Zce, Zcf, Zcg, Zch, Zci, Zcj, Zck, Zcl, Zcm, Zcn, Zco, Zcp, exL, Zcq, Zcr, nlC, Zcs, Zct, Zcu, Zcv, Zcw, Zcx, Zcy, Zcz, Zda, Zdb, Zdc, Zdd, Zde, Zdf, Zdg, Zdh, Zdi, Zdj, Zdk, Zdl, Zdm, Zdn, Zdo, Zdp, Zdq, Zdr, Zds, Zdt, Zdu, Zdv, Zdw, Zdx, Zdy, Zdz, Zea, Zeb, Zec, Zed, Zee, Zef, Zeg, Zeh, Zei, Zej, end0, end1, endS0, endS1, args0, oneOrTup, cond_true, cond_false, ite_true, ite_false, bleE, bltE, beqE, decide_true, decide_false, Bool.not_false, Bool.not_true, Bool.and_true, Bool.true_and, Bool.and_false, Bool.false_and, Nat.reduceAdd, Nat.reduceLT, Nat.reduceEqDiff, Nat.reduceLeDiff, Nat.reduceMul, leafsL, idfree, idfreeL, loadE, Zek, Zel, partE, fieldAddrE, nav, navL, List.nil_append, List.cons_append, List.append_assoc, List.getElem?_cons_zero, List.getElem?_cons_succ, List.length_cons, List.length_nil, beq_self_eq_true, Bool.true_beq, Bool.false_beq, Zem, Zen, Zeo, Zep, Zeq, frz, frzL, List.getElem?_toArray, Option.bind_some, Int.cast_ofNat_Int, Int.reduceBEq, Int.reduceBNe, Int.reduceLT, Int.reduceLE, Int.reduceAdd, Int.reduceSub, Int.reduceMul, Int.reduceNeg, Zer, Zes, Zet, Zeu, Zev, Zew, Zex, Zey, Zez, Zfa, Zfb, Zfc, Zfd, List.isEmpty_nil, List.isEmpty_cons, Zfe, Zff, Zfg, Zfh, vInt, Option.getD_some, Option.getD_none, List.set_cons_zero, List.set_cons_succ, put, putL, setParts, List.length_append, List.length_set, Zfi, Zfj, Zfk, Zfl, Zfm, Zfn, Zfo, Zfp, Zfq, Zfr, loopB, loopsIn, List.getD_cons_zero, List.getD_cons_succ, Zfs, Zft, Zfu, Zfv, Zfw, Zfx, Zfy, Zfz, Zga, Zgb, Zgc, Zgd, Zge, Zgf, Zgg, Zgh, Zgi, Zgj, Zgk, Zgl, Zgm, Nat.reduceSub, Nat.reducePow, Nat.reduceDiv, Nat.reduceMod, end0s, end1s, endS0s, endS1s, Zgn, zero_55, cv_5_3, fo_86_1, sz_3, agg_3, prs_42_3, bd_55, sz_55, prs_42_7, fo_55_2, fo_55_0, sz_4, agg_4, prs_42_11, ln_9, und_9, fo_55_1, und_53, sz_5, agg_5, agg_55, keep_42, E_masks, masks, E_rows, Tryz.f42] at g1
        cases hrq : right ⟨six, padded s, len⟩ with
        | false =>
          rw [hrq, if_pos rfl] at hpre
          rw [hrq] at hc71
          rw [hpre, call_at (E := E) (f := 42) (fn := Tryz.f42) rfl Tryz.func42 rfl (Nat.le_of_ble_eq_true rfl)]
          rcases hcase with ⟨h64, rfl, rfl⟩ | ⟨h64, rfl, rfl⟩ <;>
          · simp -implicitDefEqProofs only [Zaa, Zab, Zac, Zad, Zae, Zaf, Zag, Zah, Zai, Zaj, Zak, Zal, Zam, Zan, Zao, Zap, Zaq, Zar, Zas, Zat, Zau, Zav, Zaw, Zax, Zay, Zaz, Zba, Zbb, Zbc, Zbd, Zbe, Zbf, Zbg, Zbh, Zbi, Zbj, Zbk, Zbl, Zbm, Zbn, Zbo, Zbp, Zbq, Zbr, Zbs, Zbt, Zbu, Zbv, Zbw, Zbx, Zby, Zbz, Zca, Zcb, Zcc, Zcd, Zce, Zcf, Zcg, Zch, Zci, Zcj, Zck, Zcl, Zcm, Zcn, Zco, Zcp, exL, Zcq, Zcr, nlC, Zcs, Zct, Zcu, Zcv, Zcw, Zcx, Zcy, Zcz, Zda, Zdb, Zdc, Zdd, Zde, Zdf, Zdg, Zdh, Zdi, Zdj, Zdk, Zdl, Zdm, Zdn, Zdo, Zdp, Zdq, Zdr, Zds, Zdt, Zdu, Zdv, Zdw, Zdx, Zdy, Zdz, Zea, Zeb, Zec, Zed, Zee, Zef, Zeg, Zeh, Zei, Zej, end0, end1, endS0, endS1, args0, oneOrTup, cond_true, cond_false, ite_true, ite_false, bleE, bltE, beqE, decide_true, decide_false, Bool.not_false, Bool.not_true, Bool.and_true, Bool.true_and, Bool.and_false, Bool.false_and, Nat.reduceAdd, Nat.reduceLT, Nat.reduceEqDiff, Nat.reduceLeDiff, Nat.reduceMul, leafsL, idfree, idfreeL, loadE, Zek, Zel, partE, fieldAddrE, nav, navL, List.nil_append, List.cons_append, List.append_assoc, List.getElem?_cons_zero, List.getElem?_cons_succ, List.length_cons, List.length_nil, beq_self_eq_true, Bool.true_beq, Bool.false_beq, Zem, Zen, Zeo, Zep, Zeq, frz, frzL, List.getElem?_toArray, Option.bind_some, Int.cast_ofNat_Int, Int.reduceBEq, Int.reduceBNe, Int.reduceLT, Int.reduceLE, Int.reduceAdd, Int.reduceSub, Int.reduceMul, Int.reduceNeg, Zer, Zes, Zet, Zeu, Zev, Zew, Zex, Zey, Zez, Zfa, Zfb, Zfc, Zfd, List.isEmpty_nil, List.isEmpty_cons, Zfe, Zff, Zfg, Zfh, vInt, Option.getD_some, Option.getD_none, List.set_cons_zero, List.set_cons_succ, put, putL, setParts, List.length_append, List.length_set, Zfi, Zfj, Zfk, Zfl, Zfm, Zfn, Zfo, Zfp, Zfq, Zfr, loopB, loopsIn, List.getD_cons_zero, List.getD_cons_succ, Zfs, Zft, Zfu, Zfv, Zfw, Zfx, Zfy, Zfz, Zga, Zgb, Zgc, Zgd, Zge, Zgf, Zgg, Zgh, Zgi, Zgj, Zgk, Zgl, Zgm, Nat.reduceSub, Nat.reducePow, Nat.reduceDiv, Nat.reduceMod, end0s, end1s, endS0s, endS1s, Zgn, zero_55, cv_5_3, fo_86_1, sz_3, agg_3, prs_42_3, bd_55, sz_55, prs_42_7, fo_55_2, fo_55_0, sz_4, agg_4, prs_42_11, ln_9, und_9, fo_55_1, und_53, sz_5, agg_5, agg_55, keep_42, E_masks, masks, E_rows, Tryz.f42, rep16, hz2, hz3, hc1, w0, w1, w2, w3, bin_quo (y := 8) (by omega), hr1', e1, h64, c81, hw, hc2, hr2', e2, g1, g2, g3, hc71, storeE, frzL_bytes, pairsOK, clsOf, compat, hidne]
            exact fin_rq hD hr
        | true =>
          rw [hrq, if_neg (by simp)] at hpre
          rw [hrq] at hc71
          rw [hpre, call_at (E := E) (f := 42) (fn := Tryz.f42) rfl Tryz.func42 rfl (Nat.le_of_ble_eq_true rfl)]
          rcases hcase with ⟨h64, rfl, rfl⟩ | ⟨h64, rfl, rfl⟩ <;>
          · simp -implicitDefEqProofs only [Zaa, Zab, Zac, Zad, Zae, Zaf, Zag, Zah, Zai, Zaj, Zak, Zal, Zam, Zan, Zao, Zap, Zaq, Zar, Zas, Zat, Zau, Zav, Zaw, Zax, Zay, Zaz, Zba, Zbb, Zbc, Zbd, Zbe, Zbf, Zbg, Zbh, Zbi, Zbj, Zbk, Zbl, Zbm, Zbn, Zbo, Zbp, Zbq, Zbr, Zbs, Zbt, Zbu, Zbv, Zbw, Zbx, Zby, Zbz, Zca, Zcb, Zcc, Zcd, Zce, Zcf, Zcg, Zch, Zci, Zcj, Zck, Zcl, Zcm, Zcn, Zco, Zcp, exL, Zcq, Zcr, nlC, Zcs, Zct, Zcu, Zcv, Zcw, Zcx, Zcy, Zcz, Zda, Zdb, Zdc, Zdd, Zde, Zdf, Zdg, Zdh, Zdi, Zdj, Zdk, Zdl, Zdm, Zdn, Zdo, Zdp, Zdq, Zdr, Zds, Zdt, Zdu, Zdv, Zdw, Zdx, Zdy, Zdz, Zea, Zeb, Zec, Zed, Zee, Zef, Zeg, Zeh, Zei, Zej, end0, end1, endS0, endS1, args0, oneOrTup, cond_true, cond_false, ite_true, ite_false, bleE, bltE, beqE, decide_true, decide_false, Bool.not_false, Bool.not_true, Bool.and_true, Bool.true_and, Bool.and_false, Bool.false_and, Nat.reduceAdd, Nat.reduceLT, Nat.reduceEqDiff, Nat.reduceLeDiff, Nat.reduceMul, leafsL, idfree, idfreeL, loadE, Zek, Zel, partE, fieldAddrE, nav, navL, List.nil_append, List.cons_append, List.append_assoc, List.getElem?_cons_zero, List.getElem?_cons_succ, List.length_cons, List.length_nil, beq_self_eq_true, Bool.true_beq, Bool.false_beq, Zem, Zen, Zeo, Zep, Zeq, frz, frzL, List.getElem?_toArray, Option.bind_some, Int.cast_ofNat_Int, Int.reduceBEq, Int.reduceBNe, Int.reduceLT, Int.reduceLE, Int.reduceAdd, Int.reduceSub, Int.reduceMul, Int.reduceNeg, Zer, Zes, Zet, Zeu, Zev, Zew, Zex, Zey, Zez, Zfa, Zfb, Zfc, Zfd, List.isEmpty_nil, List.isEmpty_cons, Zfe, Zff, Zfg, Zfh, vInt, Option.getD_some, Option.getD_none, List.set_cons_zero, List.set_cons_succ, put, putL, setParts, List.length_append, List.length_set, Zfi, Zfj, Zfk, Zfl, Zfm, Zfn, Zfo, Zfp, Zfq, Zfr, loopB, loopsIn, List.getD_cons_zero, List.getD_cons_succ, Zfs, Zft, Zfu, Zfv, Zfw, Zfx, Zfy, Zfz, Zga, Zgb, Zgc, Zgd, Zge, Zgf, Zgg, Zgh, Zgi, Zgj, Zgk, Zgl, Zgm, Nat.reduceSub, Nat.reducePow, Nat.reduceDiv, Nat.reduceMod, end0s, end1s, endS0s, endS1s, Zgn, zero_55, cv_5_3, fo_86_1, sz_3, agg_3, prs_42_3, bd_55, sz_55, prs_42_7, fo_55_2, fo_55_0, sz_4, agg_4, prs_42_11, ln_9, und_9, fo_55_1, und_53, sz_5, agg_5, agg_55, keep_42, E_masks, masks, E_rows, Tryz.f42, rep16, hz2, hz3, hc1, w0, w1, w2, w3, bin_quo (y := 8) (by omega), hr1', e1, h64, c81, hw, hc2, hr2', e2, g1, g2, g3, hc71, storeE, frzL_bytes, pairsOK, clsOf, compat, hidne]
            exact fin_rq hD hr
      · have e2 : (r2.e != 0) = true := by simp [he2]
        rw [if_pos he2] at hpre
        rw [hpre, call_at (E := E) (f := 42) (fn := Tryz.f42) rfl Tryz.func42 rfl (Nat.le_of_ble_eq_true rfl)]
        rcases hcase with ⟨h64, rfl, rfl⟩ | ⟨h64, rfl, rfl⟩ <;>
        · simp -implicitDefEqProofs only [Zaa, Zab, Zac, Zad, Zae, Zaf, Zag, Zah, Zai, Zaj, Zak, Zal, Zam, Zan, Zao, Zap, Zaq, Zar, Zas, Zat, Zau, Zav, Zaw, Zax, Zay, Zaz, Zba, Zbb, Zbc, Zbd, Zbe, Zbf, Zbg, Zbh, Zbi, Zbj, Zbk, Zbl, Zbm, Zbn, Zbo, Zbp, Zbq, Zbr, Zbs, Zbt, Zbu, Zbv, Zbw, Zbx, Zby, Zbz, Zca, Zcb, Zcc, Zcd, Zce, Zcf, Zcg, Zch, Zci, Zcj, Zck, Zcl, Zcm, Zcn, Zco, Zcp, exL, Zcq, Zcr, nlC, Zcs, Zct, Zcu, Zcv, Zcw, Zcx, Zcy, Zcz, Zda, Zdb, Zdc, Zdd, Zde, Zdf, Zdg, Zdh, Zdi, Zdj, Zdk, Zdl, Zdm, Zdn, Zdo, Zdp, Zdq, Zdr, Zds, Zdt, Zdu, Zdv, Zdw, Zdx, Zdy, Zdz, Zea, Zeb, Zec, Zed, Zee, Zef, Zeg, Zeh, Zei, Zej, end0, end1, endS0, endS1, args0, oneOrTup, cond_true, cond_false, ite_true, ite_false, bleE, bltE, beqE, decide_true, decide_false, Bool.not_false, Bool.not_true, Bool.and_true, Bool.true_and, Bool.and_false, Bool.false_and, Nat.reduceAdd, Nat.reduceLT, Nat.reduceEqDiff, Nat.reduceLeDiff, Nat.reduceMul, leafsL, idfree, idfreeL, loadE, Zek, Zel, partE, fieldAddrE, nav, navL, List.nil_append, List.cons_append, List.append_assoc, List.getElem?_cons_zero, List.getElem?_cons_succ, List.length_cons, List.length_nil, beq_self_eq_true, Bool.true_beq, Bool.false_beq, Zem, Zen, Zeo, Zep, Zeq, frz, frzL, List.getElem?_toArray, Option.bind_some, Int.cast_ofNat_Int, Int.reduceBEq, Int.reduceBNe, Int.reduceLT, Int.reduceLE, Int.reduceAdd, Int.reduceSub, Int.reduceMul, Int.reduceNeg, Zer, Zes, Zet, Zeu, Zev, Zew, Zex, Zey, Zez, Zfa, Zfb, Zfc, Zfd, List.isEmpty_nil, List.isEmpty_cons, Zfe, Zff, Zfg, Zfh, vInt, Option.getD_some, Option.getD_none, List.set_cons_zero, List.set_cons_succ, put, putL, setParts, List.length_append, List.length_set, Zfi, Zfj, Zfk, Zfl, Zfm, Zfn, Zfo, Zfp, Zfq, Zfr, loopB, loopsIn, List.getD_cons_zero, List.getD_cons_succ, Zfs, Zft, Zfu, Zfv, Zfw, Zfx, Zfy, Zfz, Zga, Zgb, Zgc, Zgd, Zge, Zgf, Zgg, Zgh, Zgi, Zgj, Zgk, Zgl, Zgm, Nat.reduceSub, Nat.reducePow, Nat.reduceDiv, Nat.reduceMod, end0s, end1s, endS0s, endS1s, Zgn, zero_55, cv_5_3, fo_86_1, sz_3, agg_3, prs_42_3, bd_55, sz_55, prs_42_7, fo_55_2, fo_55_0, sz_4, agg_4, prs_42_11, ln_9, und_9, fo_55_1, und_53, sz_5, agg_5, agg_55, keep_42, E_masks, masks, E_rows, Tryz.f42, rep16, hz2, hc1, w0, w1, w2, w3, bin_quo (y := 8) (by omega), hr1', e1, h64, c81, hw, hc2, hr2', e2, storeE, frzL_bytes, pairsOK, clsOf, compat, hidne]
          exact fin_rq hD hr
  · have e1 : (r1.e != 0) = true := by simp [he1]
    rw [if_pos he1] at hpre
    rw [hpre, call_at (E := E) (f := 42) (fn := Tryz.f42) rfl Tryz.func42 rfl (Nat.le_of_ble_eq_true rfl)]
    simp -implicitDefEqProofs only [Zaa, Zab, Zac, Zad, Zae, Zaf, Zag, Zah, Zai, Zaj, Zak, Zal, Zam, Zan, Zao, Zap, Zaq, Zar, Zas, Zat, Zau, Zav, Zaw, Zax, Zay, Zaz, Zba, Zbb, Zbc, Zbd, Zbe, Zbf, Zbg, Zbh, Zbi, Zbj, Zbk, Zbl, Zbm, Zbn, Zbo, Zbp, Zbq, Zbr, Zbs, Zbt, Zbu, Zbv, Zbw, Zbx, Zby, Zbz, Zca, Zcb, Zcc, Zcd, Zce, Zcf, Zcg, Zch, Zci, Zcj, Zck, Zcl, Zcm, Zcn, Zco, Zcp, exL, Zcq, Zcr, nlC, Zcs, Zct, Zcu, Zcv, Zcw, Zcx, Zcy, Zcz, Zda, Zdb, Zdc, Zdd, Zde, Zdf, Zdg, Zdh, Zdi, Zdj, Zdk, Zdl, Zdm, Zdn, Zdo, Zdp, Zdq, Zdr, Zds, Zdt, Zdu, Zdv, Zdw, Zdx, Zdy, Zdz, Zea, Zeb, Zec, Zed, Zee, Zef, Zeg, Zeh, Zei, Zej, end0, end1, endS0, endS1, args0, oneOrTup, cond_true, cond_false, ite_true, ite_false, bleE, bltE, beqE, decide_true, decide_false, Bool.not_false, Bool.not_true, Bool.and_true, Bool.true_and, Bool.and_false, Bool.false_and, Nat.reduceAdd, Nat.reduceLT, Nat.reduceEqDiff, Nat.reduceLeDiff, Nat.reduceMul, leafsL, idfree, idfreeL, loadE, Zek, Zel, partE, fieldAddrE, nav, navL, List.nil_append, List.cons_append, List.append_assoc, List.getElem?_cons_zero, List.getElem?_cons_succ, List.length_cons, List.length_nil, beq_self_eq_true, Bool.true_beq, Bool.false_beq, Zem, Zen, Zeo, Zep, Zeq, frz, frzL, List.getElem?_toArray, Option.bind_some, Int.cast_ofNat_Int, Int.reduceBEq, Int.reduceBNe, Int.reduceLT, Int.reduceLE, Int.reduceAdd, Int.reduceSub, Int.reduceMul, Int.reduceNeg, Zer, Zes, Zet, Zeu, Zev, Zew, Zex, Zey, Zez, Zfa, Zfb, Zfc, Zfd, List.isEmpty_nil, List.isEmpty_cons, Zfe, Zff, Zfg, Zfh, vInt, Option.getD_some, Option.getD_none, List.set_cons_zero, List.set_cons_succ, put, putL, setParts, List.length_append, List.length_set, Zfi, Zfj, Zfk, Zfl, Zfm, Zfn, Zfo, Zfp, Zfq, Zfr, loopB, loopsIn, List.getD_cons_zero, List.getD_cons_succ, Zfs, Zft, Zfu, Zfv, Zfw, Zfx, Zfy, Zfz, Zga, Zgb, Zgc, Zgd, Zge, Zgf, Zgg, Zgh, Zgi, Zgj, Zgk, Zgl, Zgm, Nat.reduceSub, Nat.reducePow, Nat.reduceDiv, Nat.reduceMod, end0s, end1s, endS0s, endS1s, Zgn, zero_55, cv_5_3, fo_86_1, sz_3, agg_3, prs_42_3, bd_55, sz_55, prs_42_7, fo_55_2, fo_55_0, sz_4, agg_4, prs_42_11, ln_9, und_9, fo_55_1, und_53, sz_5, agg_5, agg_55, keep_42, E_masks, masks, E_rows, Tryz.f42, rep16, hz2, hc1, w0, hr1', e1, storeE, frzL_bytes, pairsOK, clsOf, compat, hidne]
    exact fin_rq hD1 hr

end Go.Proofs.YtobdjegooonklaaGreat
