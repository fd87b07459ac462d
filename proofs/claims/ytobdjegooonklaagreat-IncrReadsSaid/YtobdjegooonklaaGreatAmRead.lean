/- What the reading of a prefix and of a change does. Conditions: none. -/
import Derived.Test.YtobdjegooonklaaGreatAmReader
set_option linter.unusedSimpArgs false
set_option linter.unusedVariables false
namespace Go.Proofs.YtobdjegooonklaaGreat
open Go Go.AM

def zeroPre : Pre := ⟨false, List.replicate 16 0, 0⟩
def padded (s : List UInt8) : List UInt8 := s ++ (List.replicate 16 0).drop s.length
/-- What is read as a prefix. -/
def Rd.pre (r : Rd) : Pre × Int × Rd :=
  let c : Int := (r.byte.1.toNat : Nat)
  let r1 := r.byte.2
  if r1.e ≠ 0 then (zeroPre, r1.e, r1) else
  let six := decide (64 ≤ c)
  let len := if 64 ≤ c then c - 64 else c
  if width six < len then (zeroPre, 4, r1) else
  let s := (r1.raw ((len + 7) / 8)).1
  let r2 := (r1.raw ((len + 7) / 8)).2
  if r2.e ≠ 0 then (zeroPre, r2.e, r2) else
  let q : Pre := ⟨six, padded s, len⟩
  if right q = false then (zeroPre, 4, r2) else (q, 0, r2)

theorem frz_pre {n0 : Nat} {h : Heap} (p : Pre) : frz n0 h p.av = some p.av := by simp [Pre.av, frz, frzL, frzL_bytes]
theorem rep16 : List.replicate 16 (AV.v (.int .u8 0)) = ofBytes (List.replicate 16 0) := by kernel_rfl

theorem raw_len (r : Rd) (k : Int) : (r.raw k).1.length ≤ k.toNat := by
  unfold Rd.raw
  split
  · simp
  · split
    · simp
    · split
      · simp
      · simp; omega

theorem c77 (n : Nat) (h : Heap) (id : Nat) (r : Rd) (hr : h[id]? = some (rdr r)) : ∃ ds q, call E (n + 503) 77 [rp id] h = some (.tup [r.pre.1.av, .v (.int .i64 r.pre.2.1)], h.set id (rdr r.pre.2.2), ⟨ds, [], q⟩) ∧ D id ds r r.pre.2.2 := by
  have hlt : id < h.length := (List.getElem?_eq_some_iff.1 hr).1
  obtain ⟨z, hz⟩ : ∃ z, z = Row.row 18 0 [.agg [.v (.bool false), .agg (ofBytes (List.replicate 16 0)), .v (.int .i64 0)]] ⟨true, 55⟩ := ⟨_, rfl⟩
  subst hz
  have hrz : (h ++ [Row.row 18 0 [.agg [.v (.bool false), .agg (ofBytes (List.replicate 16 0)), .v (.int .i64 0)]] ⟨true, 55⟩])[id]? = some (rdr r) := by rw [app_get hlt]; exact hr
  obtain ⟨d1, q1, hc1, hd1⟩ := c75 n (h ++ [Row.row 18 0 [.agg [.v (.bool false), .agg (ofBytes (List.replicate 16 0)), .v (.int .i64 0)]] ⟨true, 55⟩]) id r hrz
  rw [set_app hlt] at hc1
  have hcl := r.byte.1.toNat_lt
  have w0 : IntKind.i64.wrap (r.byte.1.toNat : Int) = (r.byte.1.toNat : Int) := wrapN (by omega)
  generalize hb : r.byte = bb at *
  obtain ⟨c, r1⟩ := bb
  simp only at hc1 hd1 hcl w0
  have hlt1 : id < (h.set id (rdr r1)).length := by simpa using hlt
  have hr1 : (h.set id (rdr r1) ++ [Row.row 18 0 [.agg [.v (.bool false), .agg (ofBytes (List.replicate 16 0)), .v (.int .i64 0)]] ⟨true, 55⟩])[id]? = some (rdr r1) := by rw [app_get hlt1, set_get hlt]
  have hc37 := fun n => c37 n (h.set id (rdr r1) ++ [Row.row 18 0 [.agg [.v (.bool false), .agg (ofBytes (List.replicate 16 0)), .v (.int .i64 0)]] ⟨true, 55⟩]) id r1 hr1
  have hpre : r.pre = (if r1.e ≠ 0 then (zeroPre, r1.e, r1) else
      if width (decide (64 ≤ (c.toNat : Int))) < (if 64 ≤ (c.toNat : Int) then (c.toNat : Int) - 64 else (c.toNat : Int)) then (zeroPre, 4, r1) else
      if (r1.raw (((if 64 ≤ (c.toNat : Int) then (c.toNat : Int) - 64 else (c.toNat : Int)) + 7) / 8)).2.e ≠ 0 then (zeroPre, (r1.raw (((if 64 ≤ (c.toNat : Int) then (c.toNat : Int) - 64 else (c.toNat : Int)) + 7) / 8)).2.e, (r1.raw (((if 64 ≤ (c.toNat : Int) then (c.toNat : Int) - 64 else (c.toNat : Int)) + 7) / 8)).2) else
      if right ⟨decide (64 ≤ (c.toNat : Int)), padded (r1.raw (((if 64 ≤ (c.toNat : Int) then (c.toNat : Int) - 64 else (c.toNat : Int)) + 7) / 8)).1, (if 64 ≤ (c.toNat : Int) then (c.toNat : Int) - 64 else (c.toNat : Int))⟩ = false then (zeroPre, 4, (r1.raw (((if 64 ≤ (c.toNat : Int) then (c.toNat : Int) - 64 else (c.toNat : Int)) + 7) / 8)).2)
      else (⟨decide (64 ≤ (c.toNat : Int)), padded (r1.raw (((if 64 ≤ (c.toNat : Int) then (c.toNat : Int) - 64 else (c.toNat : Int)) + 7) / 8)).1, (if 64 ≤ (c.toNat : Int) then (c.toNat : Int) - 64 else (c.toNat : Int))⟩, 0, (r1.raw (((if 64 ≤ (c.toNat : Int) then (c.toNat : Int) - 64 else (c.toNat : Int)) + 7) / 8)).2)) := by
    unfold Rd.pre; rw [hb]
  have hm0 := fun (l : List Nat) => Zdz (n0 := h.length) (i := h.length) (l := l)
  by_cases he1 : r1.e = 0
  · have e1 : (r1.e != 0) = false := by simp [he1]
    rw [if_neg (by simp [he1])] at hpre
    by_cases h64 : 64 ≤ (c.toNat : Int)
    · simp only [h64, decide_true, if_true] at hpre
      -- the kind is true
      have hl0 : 0 ≤ ((c.toNat : Int) - 64) ∧ ((c.toNat : Int) - 64) ≤ 255 := by omega
      have w1 : IntKind.i64.wrap (((c.toNat : Int) - 64) + 7) = ((c.toNat : Int) - 64) + 7 := wrap_i64 (by omega) (by omega)
      have w2 : IntKind.i64.wrap ((((c.toNat : Int) - 64) + 7).tdiv 8) = (((c.toNat : Int) - 64) + 7) / 8 := by
        rw [Int.tdiv_eq_ediv_of_nonneg (by omega)]
        exact wrap_i64 (by omega) (by omega)
      have w3 : IntKind.i64.wrap ((c.toNat : Int) - 64) = (c.toNat : Int) - 64 := wrap_i64 (by omega) (by omega)
      by_cases hw : width true < ((c.toNat : Int) - 64)
      · rw [if_pos hw] at hpre
        rw [hpre]
        rw [call_at (E := E) (f := 77) (fn := Tryz.f77) rfl Tryz.func77 rfl (Nat.le_of_ble_eq_true rfl)]
        simp -implicitDefEqProofs only [Zaa, Zab, Zac, Zad, Zae, Zaf, Zag, Zah, Zai, Zaj, Zak, Zal, Zam, Zan, Zao, Zap, Zaq, Zar, Zas, Zat, Zau, Zav, Zaw, Zax, Zay, Zaz, Zba, Zbb, Zbc, Zbd, Zbe, Zbf, Zbg, Zbh, Zbi, Zbj, Zbk, Zbl, Zbm, Zbn, Zbo, Zbp, Zbq, Zbr, Zbs, Zbt, Zbu, Zbv, Zbw, Zbx, Zby, Zbz, Zca, Zcb, Zcc, Zcd, Zce, Zcf, Zcg, Zch, Zci, Zcj, Zck, Zcl, Zcm, Zcn, Zco, Zcp, exL, Zcq, Zcr, nlC, Zcs, Zct, Zcu, Zcv, Zcw, Zcx, Zcy, Zcz, Zda, Zdb, Zdc, Zdd, Zde, Zdf, Zdg, Zdh, Zdi, Zdj, Zdk, Zdl, Zdm, Zdn, Zdo, Zdp, Zdq, Zdr, Zds, Zdt, Zdu, Zdv, Zdw, Zdx, Zdy, Zdz, Zea, Zeb, Zec, Zed, Zee, Zef, Zeg, Zeh, Zei, Zej, end0, end1, endS0, endS1, args0, oneOrTup, cond_true, cond_false, ite_true, ite_false, bleE, bltE, beqE, decide_true, decide_false, Bool.not_false, Bool.not_true, Bool.and_true, Bool.true_and, Bool.and_false, Bool.false_and, Nat.reduceAdd, Nat.reduceLT, Nat.reduceEqDiff, Nat.reduceLeDiff, Nat.reduceMul, leafsL, idfree, idfreeL, loadE, Zek, Zel, partE, fieldAddrE, nav, navL, List.nil_append, List.cons_append, List.append_assoc, List.getElem?_cons_zero, List.getElem?_cons_succ, List.length_cons, List.length_nil, beq_self_eq_true, Bool.true_beq, Bool.false_beq, Zem, Zen, Zeo, Zep, Zeq, frz, frzL, List.getElem?_toArray, Option.bind_some, Int.cast_ofNat_Int, Int.reduceBEq, Int.reduceBNe, Int.reduceLT, Int.reduceLE, Int.reduceAdd, Int.reduceSub, Int.reduceMul, Int.reduceNeg, Zer, Zes, Zet, Zeu, Zev, Zew, Zex, Zey, Zez, Zfa, Zfb, Zfc, Zfd, List.isEmpty_nil, List.isEmpty_cons, Zfe, Zff, Zfg, Zfh, vInt, Option.getD_some, Option.getD_none, List.set_cons_zero, List.set_cons_succ, put, putL, setParts, List.length_append, List.length_set, Zfi, Zfj, Zfk, Zfl, Zfm, Zfn, Zfo, Zfp, Zfq, Zfr, loopB, loopsIn, List.getD_cons_zero, List.getD_cons_succ, Zfs, Zft, Zfu, Zfv, Zfw, Zfx, Zfy, Zfz, Zga, Zgb, Zgc, Zgd, Zge, Zgf, Zgg, Zgh, Zgi, Zgj, Zgk, Zgl, Zgm, Nat.reduceSub, Nat.reducePow, Nat.reduceDiv, Nat.reduceMod, end0s, end1s, endS0s, endS1s, Zgn, zero_55, cv_5_3, sz_55, agg_55, bd_55, fo_55_1, und_53, sz_5, agg_5, keep_77, E_masks, masks, E_rows, Tryz.f77, rep16, leafs_ofBytes, List.length_replicate, hc1, w0, w3, hc37, e1, h64, c101, hw, storeE, frzL_bytes]
        obtain ⟨ds', q', g1, g2⟩ := fz_rd (l := [Row.row 18 0 [.agg [.v (.bool false), .agg (ofBytes (List.replicate 16 0)), .v (.int .i64 0)]] ⟨true, 55⟩]) (r := .tup [zeroPre.av, .v (.int .i64 4)]) (r' := .tup [zeroPre.av, .v (.int .i64 4)]) (D.merge (D.refl id r) hd1 hlt) hr
        exact ⟨ds', q', congrArg some g1, g2⟩
      · rw [if_neg hw] at hpre
        have hwid := width_le true
        obtain ⟨d2, q2, hc2, hd2⟩ := c104 (n + 1) (h.set id (rdr r1) ++ [Row.row 18 0 [.agg [.v (.bool false), .agg (ofBytes (List.replicate 16 0)), .v (.int .i64 0)]] ⟨true, 55⟩]) id r1 ((((c.toNat : Int) - 64) + 7) / 8) hr1
        simp only [Nat.add_assoc, Nat.reduceAdd] at hc2
        rw [set_app hlt1, List.set_set] at hc2
        have hs16 := raw_len r1 ((((c.toNat : Int) - 64) + 7) / 8)
        generalize hraw : r1.raw ((((c.toNat : Int) - 64) + 7) / 8) = sr at *
        obtain ⟨s, r2⟩ := sr
        simp only at hc2 hd2 hpre hs16
        have hr2 : (h.set id (rdr r2) ++ [Row.row 18 0 [.agg [.v (.bool false), .agg (ofBytes (List.replicate 16 0)), .v (.int .i64 0)]] ⟨true, 55⟩])[id]? = some (rdr r2) := by rw [app_get (by simpa using hlt), set_get hlt]
        have hc372 := fun n => c37 n (h.set id (rdr r2) ++ [Row.row 18 0 [.agg [.v (.bool false), .agg (ofBytes (List.replicate 16 0)), .v (.int .i64 0)]] ⟨true, 55⟩]) id r2 hr2
        have hD := (D.merge (D.refl id r) hd1 hlt).merge hd2 hlt
        by_cases he2 : r2.e = 0
        · have e2 : (r2.e != 0) = false := by simp [he2]
          rw [if_neg (by simp [he2])] at hpre
          have hsl : s.length ≤ 16 := by omega
          have hpl : (padded s).length = 16 := by simp [padded]; omega
          have hqok : Pre.ok ⟨true, padded s, ((c.toNat : Int) - 64)⟩ := ⟨hpl, by unfold i64; show _ ≤ ((c.toNat : Int) - 64) ∧ ((c.toNat : Int) - 64) ≤ _; omega⟩
          have hc68 := fun n h => c68 n h ⟨true, padded s, ((c.toNat : Int) - 64)⟩ hqok
          simp only [Pre.av] at hc68
          have hcp : ∃ sm cl, copyE E.P (h.set id (rdr r2) ++ [Row.row 18 0 [.agg [.v (.bool false), .agg (ofBytes (List.replicate 16 0)), .v (.int .i64 0)]] ⟨true, 55⟩, Row.row 18 0 [.agg [.v (.bool true), .agg (ofBytes (List.replicate 16 0)), .v (.int .i64 ((c.toNat : Int) - 64))]] ⟨true, 55⟩]) #[65, 9] (.isl (h.length + 1) 0 0 [1] 1 1 0 16 16) (.v (.string (strB s))) = some (vInt s.length, h.set id (rdr r2) ++ [Row.row 18 0 [.agg [.v (.bool false), .agg (ofBytes (List.replicate 16 0)), .v (.int .i64 0)]] ⟨true, 55⟩, Row.row 18 0 [.agg [.v (.bool true), .agg (ofBytes (padded s)), .v (.int .i64 ((c.toNat : Int) - 64))]] ⟨true, 55⟩], sm, cl) ∧ (sm = none ∨ sm = some (h.length + 1, false)) := by
            by_cases hs0 : s = []
            · subst hs0
              exact ⟨none, .quiet, cp_none und_65 sz_5 und_9, .inl rfl⟩
            · have := cp_str (P := E.P) (h := h.set id (rdr r2) ++ [Row.row 18 0 [.agg [.v (.bool false), .agg (ofBytes (List.replicate 16 0)), .v (.int .i64 0)]] ⟨true, 55⟩, Row.row 18 0 [.agg [.v (.bool true), .agg (ofBytes (List.replicate 16 0)), .v (.int .i64 ((c.toNat : Int) - 64))]] ⟨true, 55⟩]) (d := 65) (x := 9) (e := 5) (id := h.length + 1) (g := 0) (i := 0) (o := 1) (k := 16) (kr := 18) (p := [1]) (z := .agg [.v (.bool true), .agg (ofBytes (List.replicate 16 0)), .v (.int .i64 ((c.toNat : Int) - 64))]) (z' := .agg [.v (.bool true), .agg (ofBytes (padded s)), .v (.int .i64 ((c.toNat : Int) - 64))]) (l := List.replicate 16 0) (s := s) und_65 sz_5 und_9 (by rw [end1s]; rfl) rfl rfl rfl hs0 hsl (by
                have e1 : leafsL (ofBytes (s ++ (List.replicate 16 (0 : UInt8)).drop s.length)) = 16 := by rw [leafs_ofBytes]; exact hpl
                have e2 : leafsL (ofBytes (List.replicate 16 (0 : UInt8))) = 16 := by rw [leafs_ofBytes]; rfl
                unfold padded
                simp only [put, putL, Zfv, Zfw, bleE, beqE, e1, e2, Nat.reduceSub, Nat.reduceLeDiff, decide_true, cond_true, Bool.and_self, Bool.and_true, Nat.le_refl])
              rw [endS1s] at this
              exact ⟨_, _, this, .inr rfl⟩
          obtain ⟨sm, cl, hcp, hsm⟩ := hcp
          have hz2 : leafsL (ofBytes (List.replicate 16 (0 : UInt8))) = 16 := by rw [leafs_ofBytes]; rfl
          have hz3 : leafsL (ofBytes (padded s)) = 16 := by rw [leafs_ofBytes]; exact hpl
          have hsa := fun h id => sl_all (P := E.P) (h := h) (id := id) (g := 0) (i := 0) (o := 1) (p := [1]) und_53 sz_5
          cases hrq : right ⟨true, padded s, ((c.toNat : Int) - 64)⟩ with
          | false =>
            rw [hrq, if_pos rfl] at hpre
            rw [hrq] at hc68
            rw [hpre]
            rw [call_at (E := E) (f := 77) (fn := Tryz.f77) rfl Tryz.func77 rfl (Nat.le_of_ble_eq_true rfl)]
            rcases hsm with rfl | rfl <;> simp -implicitDefEqProofs only [Zaa, Zab, Zac, Zad, Zae, Zaf, Zag, Zah, Zai, Zaj, Zak, Zal, Zam, Zan, Zao, Zap, Zaq, Zar, Zas, Zat, Zau, Zav, Zaw, Zax, Zay, Zaz, Zba, Zbb, Zbc, Zbd, Zbe, Zbf, Zbg, Zbh, Zbi, Zbj, Zbk, Zbl, Zbm, Zbn, Zbo, Zbp, Zbq, Zbr, Zbs, Zbt, Zbu, Zbv, Zbw, Zbx, Zby, Zbz, Zca, Zcb, Zcc, Zcd, Zce, Zcf, Zcg, Zch, Zci, Zcj, Zck, Zcl, Zcm, Zcn, Zco, Zcp, exL, Zcq, Zcr, nlC, Zcs, Zct, Zcu, Zcv, Zcw, Zcx, Zcy, Zcz, Zda, Zdb, Zdc, Zdd, Zde, Zdf, Zdg, Zdh, Zdi, Zdj, Zdk, Zdl, Zdm, Zdn, Zdo, Zdp, Zdq, Zdr, Zds, Zdt, Zdu, Zdv, Zdw, Zdx, Zdy, Zdz, Zea, Zeb, Zec, Zed, Zee, Zef, Zeg, Zeh, Zei, Zej, end0, end1, endS0, endS1, args0, oneOrTup, cond_true, cond_false, ite_true, ite_false, bleE, bltE, beqE, decide_true, decide_false, Bool.not_false, Bool.not_true, Bool.and_true, Bool.true_and, Bool.and_false, Bool.false_and, Nat.reduceAdd, Nat.reduceLT, Nat.reduceEqDiff, Nat.reduceLeDiff, Nat.reduceMul, leafsL, idfree, idfreeL, loadE, Zek, Zel, partE, fieldAddrE, nav, navL, List.nil_append, List.cons_append, List.append_assoc, List.getElem?_cons_zero, List.getElem?_cons_succ, List.length_cons, List.length_nil, beq_self_eq_true, Bool.true_beq, Bool.false_beq, Zem, Zen, Zeo, Zep, Zeq, frz, frzL, List.getElem?_toArray, Option.bind_some, Int.cast_ofNat_Int, Int.reduceBEq, Int.reduceBNe, Int.reduceLT, Int.reduceLE, Int.reduceAdd, Int.reduceSub, Int.reduceMul, Int.reduceNeg, Zer, Zes, Zet, Zeu, Zev, Zew, Zex, Zey, Zez, Zfa, Zfb, Zfc, Zfd, List.isEmpty_nil, List.isEmpty_cons, Zfe, Zff, Zfg, Zfh, vInt, Option.getD_some, Option.getD_none, List.set_cons_zero, List.set_cons_succ, put, putL, setParts, List.length_append, List.length_set, Zfi, Zfj, Zfk, Zfl, Zfm, Zfn, Zfo, Zfp, Zfq, Zfr, loopB, loopsIn, List.getD_cons_zero, List.getD_cons_succ, Zfs, Zft, Zfu, Zfv, Zfw, Zfx, Zfy, Zfz, Zga, Zgb, Zgc, Zgd, Zge, Zgf, Zgg, Zgh, Zgi, Zgj, Zgk, Zgl, Zgm, Nat.reduceSub, Nat.reducePow, Nat.reduceDiv, Nat.reduceMod, end0s, end1s, endS0s, endS1s, Zgn, zero_55, cv_5_3, sz_55, agg_55, bd_55, fo_55_1, und_53, sz_5, agg_5, keep_77, E_masks, masks, E_rows, Tryz.f77, rep16, hz2, hz3, hc1, w0, w1, w2, w3, bin_quo (y := 8) (by omega), hc37, e1, h64, c101, hw, hc2, hc372, e2, hsa, hcp, hc68, storeE, frzL_bytes]
            all_goals
              obtain ⟨ds', q', g1, g2⟩ := fz_rd (l := [Row.row 18 0 [.agg [.v (.bool false), .agg (ofBytes (List.replicate 16 0)), .v (.int .i64 0)]] ⟨true, 55⟩, Row.row 18 0 [.agg [.v (.bool true), .agg (ofBytes (padded s)), .v (.int .i64 ((c.toNat : Int) - 64))]] ⟨true, 55⟩]) (r := .tup [zeroPre.av, .v (.int .i64 4)]) (r' := .tup [zeroPre.av, .v (.int .i64 4)]) hD hr
              exact ⟨ds', q', congrArg some g1, g2⟩
          | true =>
            rw [hrq, if_neg (by simp)] at hpre
            rw [hrq] at hc68
            rw [hpre]
            rw [call_at (E := E) (f := 77) (fn := Tryz.f77) rfl Tryz.func77 rfl (Nat.le_of_ble_eq_true rfl)]
            rcases hsm with rfl | rfl <;> simp -implicitDefEqProofs only [Zaa, Zab, Zac, Zad, Zae, Zaf, Zag, Zah, Zai, Zaj, Zak, Zal, Zam, Zan, Zao, Zap, Zaq, Zar, Zas, Zat, Zau, Zav, Zaw, Zax, Zay, Zaz, Zba, Zbb, Zbc, Zbd, Zbe, Zbf, Zbg, Zbh, Zbi, Zbj, Zbk, Zbl, Zbm, Zbn, Zbo, Zbp, Zbq, Zbr, Zbs, Zbt, Zbu, Zbv, Zbw, Zbx, Zby, Zbz, Zca, Zcb, Zcc, Zcd, Zce, Zcf, Zcg, Zch, Zci, Zcj, Zck, Zcl, Zcm, Zcn, Zco, Zcp, exL, Zcq, Zcr, nlC, Zcs, Zct, Zcu, Zcv, Zcw, Zcx, Zcy, Zcz, Zda, Zdb, Zdc, Zdd, Zde, Zdf, Zdg, Zdh, Zdi, Zdj, Zdk, Zdl, Zdm, Zdn, Zdo, Zdp, Zdq, Zdr, Zds, Zdt, Zdu, Zdv, Zdw, Zdx, Zdy, Zdz, Zea, Zeb, Zec, Zed, Zee, Zef, Zeg, Zeh, Zei, Zej, end0, end1, endS0, endS1, args0, oneOrTup, cond_true, cond_false, ite_true, ite_false, bleE, bltE, beqE, decide_true, decide_false, Bool.not_false, Bool.not_true, Bool.and_true, Bool.true_and, Bool.and_false, Bool.false_and, Nat.reduceAdd, Nat.reduceLT, Nat.reduceEqDiff, Nat.reduceLeDiff, Nat.reduceMul, leafsL, idfree, idfreeL, loadE, Zek, Zel, partE, fieldAddrE, nav, navL, List.nil_append, List.cons_append, List.append_assoc, List.getElem?_cons_zero, List.getElem?_cons_succ, List.length_cons, List.length_nil, beq_self_eq_true, Bool.true_beq, Bool.false_beq, Zem, Zen, Zeo, Zep, Zeq, frz, frzL, List.getElem?_toArray, Option.bind_some, Int.cast_ofNat_Int, Int.reduceBEq, Int.reduceBNe, Int.reduceLT, Int.reduceLE, Int.reduceAdd, Int.reduceSub, Int.reduceMul, Int.reduceNeg, Zer, Zes, Zet, Zeu, Zev, Zew, Zex, Zey, Zez, Zfa, Zfb, Zfc, Zfd, List.isEmpty_nil, List.isEmpty_cons, Zfe, Zff, Zfg, Zfh, vInt, Option.getD_some, Option.getD_none, List.set_cons_zero, List.set_cons_succ, put, putL, setParts, List.length_append, List.length_set, Zfi, Zfj, Zfk, Zfl, Zfm, Zfn, Zfo, Zfp, Zfq, Zfr, loopB, loopsIn, List.getD_cons_zero, List.getD_cons_succ, Zfs, Zft, Zfu, Zfv, Zfw, Zfx, Zfy, Zfz, Zga, Zgb, Zgc, Zgd, Zge, Zgf, Zgg, Zgh, Zgi, Zgj, Zgk, Zgl, Zgm, Nat.reduceSub, Nat.reducePow, Nat.reduceDiv, Nat.reduceMod, end0s, end1s, endS0s, endS1s, Zgn, zero_55, cv_5_3, sz_55, agg_55, bd_55, fo_55_1, und_53, sz_5, agg_5, keep_77, E_masks, masks, E_rows, Tryz.f77, rep16, hz2, hz3, hc1, w0, w1, w2, w3, bin_quo (y := 8) (by omega), hc37, e1, h64, c101, hw, hc2, hc372, e2, hsa, hcp, hc68, storeE, frzL_bytes]
            all_goals
              obtain ⟨ds', q', g1, g2⟩ := fz_rd (l := [Row.row 18 0 [.agg [.v (.bool true), .agg (ofBytes (padded s)), .v (.int .i64 ((c.toNat : Int) - 64))]] ⟨true, 55⟩, Row.row 18 0 [.agg [.v (.bool true), .agg (ofBytes (padded s)), .v (.int .i64 ((c.toNat : Int) - 64))]] ⟨true, 55⟩]) (r := .tup [Pre.av ⟨true, padded s, ((c.toNat : Int) - 64)⟩, .v (.int .i64 0)]) (r' := .tup [Pre.av ⟨true, padded s, ((c.toNat : Int) - 64)⟩, .v (.int .i64 0)]) hD hr
              exact ⟨ds', q', congrArg some g1, g2⟩
        · have e2 : (r2.e != 0) = true := by simp [he2]
          rw [if_pos he2] at hpre
          rw [hpre]
          rw [call_at (E := E) (f := 77) (fn := Tryz.f77) rfl Tryz.func77 rfl (Nat.le_of_ble_eq_true rfl)]
          simp -implicitDefEqProofs only [Zaa, Zab, Zac, Zad, Zae, Zaf, Zag, Zah, Zai, Zaj, Zak, Zal, Zam, Zan, Zao, Zap, Zaq, Zar, Zas, Zat, Zau, Zav, Zaw, Zax, Zay, Zaz, Zba, Zbb, Zbc, Zbd, Zbe, Zbf, Zbg, Zbh, Zbi, Zbj, Zbk, Zbl, Zbm, Zbn, Zbo, Zbp, Zbq, Zbr, Zbs, Zbt, Zbu, Zbv, Zbw, Zbx, Zby, Zbz, Zca, Zcb, Zcc, Zcd, Zce, Zcf, Zcg, Zch, Zci, Zcj, Zck, Zcl, Zcm, Zcn, Zco, Zcp, exL, Zcq, Zcr, nlC, Zcs, Zct, Zcu, Zcv, Zcw, Zcx, Zcy, Zcz, Zda, Zdb, Zdc, Zdd, Zde, Zdf, Zdg, Zdh, Zdi, Zdj, Zdk, Zdl, Zdm, Zdn, Zdo, Zdp, Zdq, Zdr, Zds, Zdt, Zdu, Zdv, Zdw, Zdx, Zdy, Zdz, Zea, Zeb, Zec, Zed, Zee, Zef, Zeg, Zeh, Zei, Zej, end0, end1, endS0, endS1, args0, oneOrTup, cond_true, cond_false, ite_true, ite_false, bleE, bltE, beqE, decide_true, decide_false, Bool.not_false, Bool.not_true, Bool.and_true, Bool.true_and, Bool.and_false, Bool.false_and, Nat.reduceAdd, Nat.reduceLT, Nat.reduceEqDiff, Nat.reduceLeDiff, Nat.reduceMul, leafsL, idfree, idfreeL, loadE, Zek, Zel, partE, fieldAddrE, nav, navL, List.nil_append, List.cons_append, List.append_assoc, List.getElem?_cons_zero, List.getElem?_cons_succ, List.length_cons, List.length_nil, beq_self_eq_true, Bool.true_beq, Bool.false_beq, Zem, Zen, Zeo, Zep, Zeq, frz, frzL, List.getElem?_toArray, Option.bind_some, Int.cast_ofNat_Int, Int.reduceBEq, Int.reduceBNe, Int.reduceLT, Int.reduceLE, Int.reduceAdd, Int.reduceSub, Int.reduceMul, Int.reduceNeg, Zer, Zes, Zet, Zeu, Zev, Zew, Zex, Zey, Zez, Zfa, Zfb, Zfc, Zfd, List.isEmpty_nil, List.isEmpty_cons, Zfe, Zff, Zfg, Zfh, vInt, Option.getD_some, Option.getD_none, List.set_cons_zero, List.set_cons_succ, put, putL, setParts, List.length_append, List.length_set, Zfi, Zfj, Zfk, Zfl, Zfm, Zfn, Zfo, Zfp, Zfq, Zfr, loopB, loopsIn, List.getD_cons_zero, List.getD_cons_succ, Zfs, Zft, Zfu, Zfv, Zfw, Zfx, Zfy, Zfz, Zga, Zgb, Zgc, Zgd, Zge, Zgf, Zgg, Zgh, Zgi, Zgj, Zgk, Zgl, Zgm, Nat.reduceSub, Nat.reducePow, Nat.reduceDiv, Nat.reduceMod, end0s, end1s, endS0s, endS1s, Zgn, zero_55, cv_5_3, sz_55, agg_55, bd_55, fo_55_1, und_53, sz_5, agg_5, keep_77, E_masks, masks, E_rows, Tryz.f77, rep16, leafs_ofBytes, List.length_replicate, hc1, w0, w1, w2, w3, bin_quo (y := 8) (by omega), hc37, e1, h64, c101, hw, hc2, hc372, e2, storeE, frzL_bytes]
          obtain ⟨ds', q', g1, g2⟩ := fz_rd (l := [Row.row 18 0 [.agg [.v (.bool false), .agg (ofBytes (List.replicate 16 0)), .v (.int .i64 0)]] ⟨true, 55⟩]) (r := .tup [zeroPre.av, .v (.int .i64 r2.e)]) (r' := .tup [zeroPre.av, .v (.int .i64 r2.e)]) hD hr
          exact ⟨ds', q', congrArg some g1, g2⟩
    · simp only [h64, decide_false, if_false] at hpre
      -- the kind is false
      have hl0 : 0 ≤ (c.toNat : Int) ∧ (c.toNat : Int) ≤ 255 := by omega
      have w1 : IntKind.i64.wrap ((c.toNat : Int) + 7) = (c.toNat : Int) + 7 := wrap_i64 (by omega) (by omega)
      have w2 : IntKind.i64.wrap (((c.toNat : Int) + 7).tdiv 8) = ((c.toNat : Int) + 7) / 8 := by
        rw [Int.tdiv_eq_ediv_of_nonneg (by omega)]
        exact wrap_i64 (by omega) (by omega)
      have w3 : IntKind.i64.wrap ((c.toNat : Int) - 64) = (c.toNat : Int) - 64 := wrap_i64 (by omega) (by omega)
      by_cases hw : width false < (c.toNat : Int)
      · rw [if_pos hw] at hpre
        rw [hpre]
        rw [call_at (E := E) (f := 77) (fn := Tryz.f77) rfl Tryz.func77 rfl (Nat.le_of_ble_eq_true rfl)]
        simp -implicitDefEqProofs only [Zaa, Zab, Zac, Zad, Zae, Zaf, Zag, Zah, Zai, Zaj, Zak, Zal, Zam, Zan, Zao, Zap, Zaq, Zar, Zas, Zat, Zau, Zav, Zaw, Zax, Zay, Zaz, Zba, Zbb, Zbc, Zbd, Zbe, Zbf, Zbg, Zbh, Zbi, Zbj, Zbk, Zbl, Zbm, Zbn, Zbo, Zbp, Zbq, Zbr, Zbs, Zbt, Zbu, Zbv, Zbw, Zbx, Zby, Zbz, Zca, Zcb, Zcc, Zcd, Zce, Zcf, Zcg, Zch, Zci, Zcj, Zck, Zcl, Zcm, Zcn, Zco, Zcp, exL, Zcq, Zcr, nlC, Zcs, Zct, Zcu, Zcv, Zcw, Zcx, Zcy, Zcz, Zda, Zdb, Zdc, Zdd, Zde, Zdf, Zdg, Zdh, Zdi, Zdj, Zdk, Zdl, Zdm, Zdn, Zdo, Zdp, Zdq, Zdr, Zds, Zdt, Zdu, Zdv, Zdw, Zdx, Zdy, Zdz, Zea, Zeb, Zec, Zed, Zee, Zef, Zeg, Zeh, Zei, Zej, end0, end1, endS0, endS1, args0, oneOrTup, cond_true, cond_false, ite_true, ite_false, bleE, bltE, beqE, decide_true, decide_false, Bool.not_false, Bool.not_true, Bool.and_true, Bool.true_and, Bool.and_false, Bool.false_and, Nat.reduceAdd, Nat.reduceLT, Nat.reduceEqDiff, Nat.reduceLeDiff, Nat.reduceMul, leafsL, idfree, idfreeL, loadE, Zek, Zel, partE, fieldAddrE, nav, navL, List.nil_append, List.cons_append, List.append_assoc, List.getElem?_cons_zero, List.getElem?_cons_succ, List.length_cons, List.length_nil, beq_self_eq_true, Bool.true_beq, Bool.false_beq, Zem, Zen, Zeo, Zep, Zeq, frz, frzL, List.getElem?_toArray, Option.bind_some, Int.cast_ofNat_Int, Int.reduceBEq, Int.reduceBNe, Int.reduceLT, Int.reduceLE, Int.reduceAdd, Int.reduceSub, Int.reduceMul, Int.reduceNeg, Zer, Zes, Zet, Zeu, Zev, Zew, Zex, Zey, Zez, Zfa, Zfb, Zfc, Zfd, List.isEmpty_nil, List.isEmpty_cons, Zfe, Zff, Zfg, Zfh, vInt, Option.getD_some, Option.getD_none, List.set_cons_zero, List.set_cons_succ, put, putL, setParts, List.length_append, List.length_set, Zfi, Zfj, Zfk, Zfl, Zfm, Zfn, Zfo, Zfp, Zfq, Zfr, loopB, loopsIn, List.getD_cons_zero, List.getD_cons_succ, Zfs, Zft, Zfu, Zfv, Zfw, Zfx, Zfy, Zfz, Zga, Zgb, Zgc, Zgd, Zge, Zgf, Zgg, Zgh, Zgi, Zgj, Zgk, Zgl, Zgm, Nat.reduceSub, Nat.reducePow, Nat.reduceDiv, Nat.reduceMod, end0s, end1s, endS0s, endS1s, Zgn, zero_55, cv_5_3, sz_55, agg_55, bd_55, fo_55_1, und_53, sz_5, agg_5, keep_77, E_masks, masks, E_rows, Tryz.f77, rep16, leafs_ofBytes, List.length_replicate, hc1, w0, w3, hc37, e1, h64, c101, hw, storeE, frzL_bytes]
        obtain ⟨ds', q', g1, g2⟩ := fz_rd (l := [Row.row 18 0 [.agg [.v (.bool false), .agg (ofBytes (List.replicate 16 0)), .v (.int .i64 0)]] ⟨true, 55⟩]) (r := .tup [zeroPre.av, .v (.int .i64 4)]) (r' := .tup [zeroPre.av, .v (.int .i64 4)]) (D.merge (D.refl id r) hd1 hlt) hr
        exact ⟨ds', q', congrArg some g1, g2⟩
      · rw [if_neg hw] at hpre
        have hwid := width_le false
        obtain ⟨d2, q2, hc2, hd2⟩ := c104 (n + 1) (h.set id (rdr r1) ++ [Row.row 18 0 [.agg [.v (.bool false), .agg (ofBytes (List.replicate 16 0)), .v (.int .i64 0)]] ⟨true, 55⟩]) id r1 (((c.toNat : Int) + 7) / 8) hr1
        simp only [Nat.add_assoc, Nat.reduceAdd] at hc2
        rw [set_app hlt1, List.set_set] at hc2
        have hs16 := raw_len r1 (((c.toNat : Int) + 7) / 8)
        generalize hraw : r1.raw (((c.toNat : Int) + 7) / 8) = sr at *
        obtain ⟨s, r2⟩ := sr
        simp only at hc2 hd2 hpre hs16
        have hr2 : (h.set id (rdr r2) ++ [Row.row 18 0 [.agg [.v (.bool false), .agg (ofBytes (List.replicate 16 0)), .v (.int .i64 0)]] ⟨true, 55⟩])[id]? = some (rdr r2) := by rw [app_get (by simpa using hlt), set_get hlt]
        have hc372 := fun n => c37 n (h.set id (rdr r2) ++ [Row.row 18 0 [.agg [.v (.bool false), .agg (ofBytes (List.replicate 16 0)), .v (.int .i64 0)]] ⟨true, 55⟩]) id r2 hr2
        have hD := (D.merge (D.refl id r) hd1 hlt).merge hd2 hlt
        by_cases he2 : r2.e = 0
        · have e2 : (r2.e != 0) = false := by simp [he2]
          rw [if_neg (by simp [he2])] at hpre
          have hsl : s.length ≤ 16 := by omega
          have hpl : (padded s).length = 16 := by simp [padded]; omega
          have hqok : Pre.ok ⟨false, padded s, (c.toNat : Int)⟩ := ⟨hpl, by unfold i64; show _ ≤ (c.toNat : Int) ∧ (c.toNat : Int) ≤ _; omega⟩
          have hc68 := fun n h => c68 n h ⟨false, padded s, (c.toNat : Int)⟩ hqok
          simp only [Pre.av] at hc68
          have hcp : ∃ sm cl, copyE E.P (h.set id (rdr r2) ++ [Row.row 18 0 [.agg [.v (.bool false), .agg (ofBytes (List.replicate 16 0)), .v (.int .i64 0)]] ⟨true, 55⟩, Row.row 18 0 [.agg [.v (.bool false), .agg (ofBytes (List.replicate 16 0)), .v (.int .i64 (c.toNat : Int))]] ⟨true, 55⟩]) #[65, 9] (.isl (h.length + 1) 0 0 [1] 1 1 0 16 16) (.v (.string (strB s))) = some (vInt s.length, h.set id (rdr r2) ++ [Row.row 18 0 [.agg [.v (.bool false), .agg (ofBytes (List.replicate 16 0)), .v (.int .i64 0)]] ⟨true, 55⟩, Row.row 18 0 [.agg [.v (.bool false), .agg (ofBytes (padded s)), .v (.int .i64 (c.toNat : Int))]] ⟨true, 55⟩], sm, cl) ∧ (sm = none ∨ sm = some (h.length + 1, false)) := by
            by_cases hs0 : s = []
            · subst hs0
              exact ⟨none, .quiet, cp_none und_65 sz_5 und_9, .inl rfl⟩
            · have := cp_str (P := E.P) (h := h.set id (rdr r2) ++ [Row.row 18 0 [.agg [.v (.bool false), .agg (ofBytes (List.replicate 16 0)), .v (.int .i64 0)]] ⟨true, 55⟩, Row.row 18 0 [.agg [.v (.bool false), .agg (ofBytes (List.replicate 16 0)), .v (.int .i64 (c.toNat : Int))]] ⟨true, 55⟩]) (d := 65) (x := 9) (e := 5) (id := h.length + 1) (g := 0) (i := 0) (o := 1) (k := 16) (kr := 18) (p := [1]) (z := .agg [.v (.bool false), .agg (ofBytes (List.replicate 16 0)), .v (.int .i64 (c.toNat : Int))]) (z' := .agg [.v (.bool false), .agg (ofBytes (padded s)), .v (.int .i64 (c.toNat : Int))]) (l := List.replicate 16 0) (s := s) und_65 sz_5 und_9 (by rw [end1s]; rfl) rfl rfl rfl hs0 hsl (by
                have e1 : leafsL (ofBytes (s ++ (List.replicate 16 (0 : UInt8)).drop s.length)) = 16 := by rw [leafs_ofBytes]; exact hpl
                have e2 : leafsL (ofBytes (List.replicate 16 (0 : UInt8))) = 16 := by rw [leafs_ofBytes]; rfl
                unfold padded
                simp only [put, putL, Zfv, Zfw, bleE, beqE, e1, e2, Nat.reduceSub, Nat.reduceLeDiff, decide_true, cond_true, Bool.and_self, Bool.and_true, Nat.le_refl])
              rw [endS1s] at this
              exact ⟨_, _, this, .inr rfl⟩
          obtain ⟨sm, cl, hcp, hsm⟩ := hcp
          have hz2 : leafsL (ofBytes (List.replicate 16 (0 : UInt8))) = 16 := by rw [leafs_ofBytes]; rfl
          have hz3 : leafsL (ofBytes (padded s)) = 16 := by rw [leafs_ofBytes]; exact hpl
          have hsa := fun h id => sl_all (P := E.P) (h := h) (id := id) (g := 0) (i := 0) (o := 1) (p := [1]) und_53 sz_5
          cases hrq : right ⟨false, padded s, (c.toNat : Int)⟩ with
          | false =>
            rw [hrq, if_pos rfl] at hpre
            rw [hrq] at hc68
            rw [hpre]
            rw [call_at (E := E) (f := 77) (fn := Tryz.f77) rfl Tryz.func77 rfl (Nat.le_of_ble_eq_true rfl)]
            rcases hsm with rfl | rfl <;> simp -implicitDefEqProofs only [Zaa, Zab, Zac, Zad, Zae, Zaf, Zag, Zah, Zai, Zaj, Zak, Zal, Zam, Zan, Zao, Zap, Zaq, Zar, Zas, Zat, Zau, Zav, Zaw, Zax, Zay, Zaz, Zba, Zbb, Zbc, Zbd, Zbe, Zbf, Zbg, Zbh, Zbi, Zbj, Zbk, Zbl, Zbm, Zbn, Zbo, Zbp, Zbq, Zbr, Zbs, Zbt, Zbu, Zbv, Zbw, Zbx, Zby, Zbz, Zca, Zcb, Zcc, Zcd, Zce, Zcf, Zcg, Zch, Zci, Zcj, Zck, Zcl, Zcm, Zcn, Zco, Zcp, exL, Zcq, Zcr, nlC, Zcs, Zct, Zcu, Zcv, Zcw, Zcx, Zcy, Zcz, Zda, Zdb, Zdc, Zdd, Zde, Zdf, Zdg, Zdh, Zdi, Zdj, Zdk, Zdl, Zdm, Zdn, Zdo, Zdp, Zdq, Zdr, Zds, Zdt, Zdu, Zdv, Zdw, Zdx, Zdy, Zdz, Zea, Zeb, Zec, Zed, Zee, Zef, Zeg, Zeh, Zei, Zej, end0, end1, endS0, endS1, args0, oneOrTup, cond_true, cond_false, ite_true, ite_false, bleE, bltE, beqE, decide_true, decide_false, Bool.not_false, Bool.not_true, Bool.and_true, Bool.true_and, Bool.and_false, Bool.false_and, Nat.reduceAdd, Nat.reduceLT, Nat.reduceEqDiff, Nat.reduceLeDiff, Nat.reduceMul, leafsL, idfree, idfreeL, loadE, Zek, Zel, partE, fieldAddrE, nav, navL, List.nil_append, List.cons_append, List.append_assoc, List.getElem?_cons_zero, List.getElem?_cons_succ, List.length_cons, List.length_nil, beq_self_eq_true, Bool.true_beq, Bool.false_beq, Zem, Zen, Zeo, Zep, Zeq, frz, frzL, List.getElem?_toArray, Option.bind_some, Int.cast_ofNat_Int, Int.reduceBEq, Int.reduceBNe, Int.reduceLT, Int.reduceLE, Int.reduceAdd, Int.reduceSub, Int.reduceMul, Int.reduceNeg, Zer, Zes, Zet, Zeu, Zev, Zew, Zex, Zey, Zez, Zfa, Zfb, Zfc, Zfd, List.isEmpty_nil, List.isEmpty_cons, Zfe, Zff, Zfg, Zfh, vInt, Option.getD_some, Option.getD_none, List.set_cons_zero, List.set_cons_succ, put, putL, setParts, List.length_append, List.length_set, Zfi, Zfj, Zfk, Zfl, Zfm, Zfn, Zfo, Zfp, Zfq, Zfr, loopB, loopsIn, List.getD_cons_zero, List.getD_cons_succ, Zfs, Zft, Zfu, Zfv, Zfw, Zfx, Zfy, Zfz, Zga, Zgb, Zgc, Zgd, Zge, Zgf, Zgg, Zgh, Zgi, Zgj, Zgk, Zgl, Zgm, Nat.reduceSub, Nat.reducePow, Nat.reduceDiv, Nat.reduceMod, end0s, end1s, endS0s, endS1s, Zgn, zero_55, cv_5_3, sz_55, agg_55, bd_55, fo_55_1, und_53, sz_5, agg_5, keep_77, E_masks, masks, E_rows, Tryz.f77, rep16, hz2, hz3, hc1, w0, w1, w2, w3, bin_quo (y := 8) (by omega), hc37, e1, h64, c101, hw, hc2, hc372, e2, hsa, hcp, hc68, storeE, frzL_bytes]
            all_goals
              obtain ⟨ds', q', g1, g2⟩ := fz_rd (l := [Row.row 18 0 [.agg [.v (.bool false), .agg (ofBytes (List.replicate 16 0)), .v (.int .i64 0)]] ⟨true, 55⟩, Row.row 18 0 [.agg [.v (.bool false), .agg (ofBytes (padded s)), .v (.int .i64 (c.toNat : Int))]] ⟨true, 55⟩]) (r := .tup [zeroPre.av, .v (.int .i64 4)]) (r' := .tup [zeroPre.av, .v (.int .i64 4)]) hD hr
              exact ⟨ds', q', congrArg some g1, g2⟩
          | true =>
            rw [hrq, if_neg (by simp)] at hpre
            rw [hrq] at hc68
            rw [hpre]
            rw [call_at (E := E) (f := 77) (fn := Tryz.f77) rfl Tryz.func77 rfl (Nat.le_of_ble_eq_true rfl)]
            rcases hsm with rfl | rfl <;> simp -implicitDefEqProofs only [Zaa, Zab, Zac, Zad, Zae, Zaf, Zag, Zah, Zai, Zaj, Zak, Zal, Zam, Zan, Zao, Zap, Zaq, Zar, Zas, Zat, Zau, Zav, Zaw, Zax, Zay, Zaz, Zba, Zbb, Zbc, Zbd, Zbe, Zbf, Zbg, Zbh, Zbi, Zbj, Zbk, Zbl, Zbm, Zbn, Zbo, Zbp, Zbq, Zbr, Zbs, Zbt, Zbu, Zbv, Zbw, Zbx, Zby, Zbz, Zca, Zcb, Zcc, Zcd, Zce, Zcf, Zcg, Zch, Zci, Zcj, Zck, Zcl, Zcm, Zcn, Zco, Zcp, exL, Zcq, Zcr, nlC, Zcs, Zct, Zcu, Zcv, Zcw, Zcx, Zcy, Zcz, Zda, Zdb, Zdc, Zdd, Zde, Zdf, Zdg, Zdh, Zdi, Zdj, Zdk, Zdl, Zdm, Zdn, Zdo, Zdp, Zdq, Zdr, Zds, Zdt, Zdu, Zdv, Zdw, Zdx, Zdy, Zdz, Zea, Zeb, Zec, Zed, Zee, Zef, Zeg, Zeh, Zei, Zej, end0, end1, endS0, endS1, args0, oneOrTup, cond_true, cond_false, ite_true, ite_false, bleE, bltE, beqE, decide_true, decide_false, Bool.not_false, Bool.not_true, Bool.and_true, Bool.true_and, Bool.and_false, Bool.false_and, Nat.reduceAdd, Nat.reduceLT, Nat.reduceEqDiff, Nat.reduceLeDiff, Nat.reduceMul, leafsL, idfree, idfreeL, loadE, Zek, Zel, partE, fieldAddrE, nav, navL, List.nil_append, List.cons_append, List.append_assoc, List.getElem?_cons_zero, List.getElem?_cons_succ, List.length_cons, List.length_nil, beq_self_eq_true, Bool.true_beq, Bool.false_beq, Zem, Zen, Zeo, Zep, Zeq, frz, frzL, List.getElem?_toArray, Option.bind_some, Int.cast_ofNat_Int, Int.reduceBEq, Int.reduceBNe, Int.reduceLT, Int.reduceLE, Int.reduceAdd, Int.reduceSub, Int.reduceMul, Int.reduceNeg, Zer, Zes, Zet, Zeu, Zev, Zew, Zex, Zey, Zez, Zfa, Zfb, Zfc, Zfd, List.isEmpty_nil, List.isEmpty_cons, Zfe, Zff, Zfg, Zfh, vInt, Option.getD_some, Option.getD_none, List.set_cons_zero, List.set_cons_succ, put, putL, setParts, List.length_append, List.length_set, Zfi, Zfj, Zfk, Zfl, Zfm, Zfn, Zfo, Zfp, Zfq, Zfr, loopB, loopsIn, List.getD_cons_zero, List.getD_cons_succ, Zfs, Zft, Zfu, Zfv, Zfw, Zfx, Zfy, Zfz, Zga, Zgb, Zgc, Zgd, Zge, Zgf, Zgg, Zgh, Zgi, Zgj, Zgk, Zgl, Zgm, Nat.reduceSub, Nat.reducePow, Nat.reduceDiv, Nat.reduceMod, end0s, end1s, endS0s, endS1s, Zgn, zero_55, cv_5_3, sz_55, agg_55, bd_55, fo_55_1, und_53, sz_5, agg_5, keep_77, E_masks, masks, E_rows, Tryz.f77, rep16, hz2, hz3, hc1, w0, w1, w2, w3, bin_quo (y := 8) (by omega), hc37, e1, h64, c101, hw, hc2, hc372, e2, hsa, hcp, hc68, storeE, frzL_bytes]
            all_goals
              obtain ⟨ds', q', g1, g2⟩ := fz_rd (l := [Row.row 18 0 [.agg [.v (.bool false), .agg (ofBytes (padded s)), .v (.int .i64 (c.toNat : Int))]] ⟨true, 55⟩, Row.row 18 0 [.agg [.v (.bool false), .agg (ofBytes (padded s)), .v (.int .i64 (c.toNat : Int))]] ⟨true, 55⟩]) (r := .tup [Pre.av ⟨false, padded s, (c.toNat : Int)⟩, .v (.int .i64 0)]) (r' := .tup [Pre.av ⟨false, padded s, (c.toNat : Int)⟩, .v (.int .i64 0)]) hD hr
              exact ⟨ds', q', congrArg some g1, g2⟩
        · have e2 : (r2.e != 0) = true := by simp [he2]
          rw [if_pos he2] at hpre
          rw [hpre]
          rw [call_at (E := E) (f := 77) (fn := Tryz.f77) rfl Tryz.func77 rfl (Nat.le_of_ble_eq_true rfl)]
          simp -implicitDefEqProofs only [Zaa, Zab, Zac, Zad, Zae, Zaf, Zag, Zah, Zai, Zaj, Zak, Zal, Zam, Zan, Zao, Zap, Zaq, Zar, Zas, Zat, Zau, Zav, Zaw, Zax, Zay, Zaz, Zba, Zbb, Zbc, Zbd, Zbe, Zbf, Zbg, Zbh, Zbi, Zbj, Zbk, Zbl, Zbm, Zbn, Zbo, Zbp, Zbq, Zbr, Zbs, Zbt, Zbu, Zbv, Zbw, Zbx, Zby, Zbz, Zca, Zcb, Zcc, Zcd, Zce, Zcf, Zcg, Zch, Zci, Zcj, Zck, Zcl, Zcm, Zcn, Zco, Zcp, exL, Zcq, Zcr, nlC, Zcs, Zct, Zcu, Zcv, Zcw, Zcx, Zcy, Zcz, Zda, Zdb, Zdc, Zdd, Zde, Zdf, Zdg, Zdh, Zdi, Zdj, Zdk, Zdl, Zdm, Zdn, Zdo, Zdp, Zdq, Zdr, Zds, Zdt, Zdu, Zdv, Zdw, Zdx, Zdy, Zdz, Zea, Zeb, Zec, Zed, Zee, Zef, Zeg, Zeh, Zei, Zej, end0, end1, endS0, endS1, args0, oneOrTup, cond_true, cond_false, ite_true, ite_false, bleE, bltE, beqE, decide_true, decide_false, Bool.not_false, Bool.not_true, Bool.and_true, Bool.true_and, Bool.and_false, Bool.false_and, Nat.reduceAdd, Nat.reduceLT, Nat.reduceEqDiff, Nat.reduceLeDiff, Nat.reduceMul, leafsL, idfree, idfreeL, loadE, Zek, Zel, partE, fieldAddrE, nav, navL, List.nil_append, List.cons_append, List.append_assoc, List.getElem?_cons_zero, List.getElem?_cons_succ, List.length_cons, List.length_nil, beq_self_eq_true, Bool.true_beq, Bool.false_beq, Zem, Zen, Zeo, Zep, Zeq, frz, frzL, List.getElem?_toArray, Option.bind_some, Int.cast_ofNat_Int, Int.reduceBEq, Int.reduceBNe, Int.reduceLT, Int.reduceLE, Int.reduceAdd, Int.reduceSub, Int.reduceMul, Int.reduceNeg, Zer, Zes, Zet, Zeu, Zev, Zew, Zex, Zey, Zez, Zfa, Zfb, Zfc, Zfd, List.isEmpty_nil, List.isEmpty_cons, Zfe, Zff, Zfg, Zfh, vInt, Option.getD_some, Option.getD_none, List.set_cons_zero, List.set_cons_succ, put, putL, setParts, List.length_append, List.length_set, Zfi, Zfj, Zfk, Zfl, Zfm, Zfn, Zfo, Zfp, Zfq, Zfr, loopB, loopsIn, List.getD_cons_zero, List.getD_cons_succ, Zfs, Zft, Zfu, Zfv, Zfw, Zfx, Zfy, Zfz, Zga, Zgb, Zgc, Zgd, Zge, Zgf, Zgg, Zgh, Zgi, Zgj, Zgk, Zgl, Zgm, Nat.reduceSub, Nat.reducePow, Nat.reduceDiv, Nat.reduceMod, end0s, end1s, endS0s, endS1s, Zgn, zero_55, cv_5_3, sz_55, agg_55, bd_55, fo_55_1, und_53, sz_5, agg_5, keep_77, E_masks, masks, E_rows, Tryz.f77, rep16, leafs_ofBytes, List.length_replicate, hc1, w0, w1, w2, w3, bin_quo (y := 8) (by omega), hc37, e1, h64, c101, hw, hc2, hc372, e2, storeE, frzL_bytes]
          obtain ⟨ds', q', g1, g2⟩ := fz_rd (l := [Row.row 18 0 [.agg [.v (.bool false), .agg (ofBytes (List.replicate 16 0)), .v (.int .i64 0)]] ⟨true, 55⟩]) (r := .tup [zeroPre.av, .v (.int .i64 r2.e)]) (r' := .tup [zeroPre.av, .v (.int .i64 r2.e)]) hD hr
          exact ⟨ds', q', congrArg some g1, g2⟩
  · have e1 : (r1.e != 0) = true := by simp [he1]
    rw [if_pos he1] at hpre
    rw [hpre]
    rw [call_at (E := E) (f := 77) (fn := Tryz.f77) rfl Tryz.func77 rfl (Nat.le_of_ble_eq_true rfl)]
    simp -implicitDefEqProofs only [Zaa, Zab, Zac, Zad, Zae, Zaf, Zag, Zah, Zai, Zaj, Zak, Zal, Zam, Zan, Zao, Zap, Zaq, Zar, Zas, Zat, Zau, Zav, Zaw, Zax, Zay, Zaz, Zba, Zbb, Zbc, Zbd, Zbe, Zbf, Zbg, Zbh, Zbi, Zbj, Zbk, Zbl, Zbm, Zbn, Zbo, Zbp, Zbq, Zbr, Zbs, Zbt, Zbu, Zbv, Zbw, Zbx, Zby, Zbz, Zca, Zcb, Zcc, Zcd, Zce, Zcf, Zcg, Zch, Zci, Zcj, Zck, Zcl, Zcm, Zcn, Zco, Zcp, exL, Zcq, Zcr, nlC, Zcs, Zct, Zcu, Zcv, Zcw, Zcx, Zcy, Zcz, Zda, Zdb, Zdc, Zdd, Zde, Zdf, Zdg, Zdh, Zdi, Zdj, Zdk, Zdl, Zdm, Zdn, Zdo, Zdp, Zdq, Zdr, Zds, Zdt, Zdu, Zdv, Zdw, Zdx, Zdy, Zdz, Zea, Zeb, Zec, Zed, Zee, Zef, Zeg, Zeh, Zei, Zej, end0, end1, endS0, endS1, args0, oneOrTup, cond_true, cond_false, ite_true, ite_false, bleE, bltE, beqE, decide_true, decide_false, Bool.not_false, Bool.not_true, Bool.and_true, Bool.true_and, Bool.and_false, Bool.false_and, Nat.reduceAdd, Nat.reduceLT, Nat.reduceEqDiff, Nat.reduceLeDiff, Nat.reduceMul, leafsL, idfree, idfreeL, loadE, Zek, Zel, partE, fieldAddrE, nav, navL, List.nil_append, List.cons_append, List.append_assoc, List.getElem?_cons_zero, List.getElem?_cons_succ, List.length_cons, List.length_nil, beq_self_eq_true, Bool.true_beq, Bool.false_beq, Zem, Zen, Zeo, Zep, Zeq, frz, frzL, List.getElem?_toArray, Option.bind_some, Int.cast_ofNat_Int, Int.reduceBEq, Int.reduceBNe, Int.reduceLT, Int.reduceLE, Int.reduceAdd, Int.reduceSub, Int.reduceMul, Int.reduceNeg, Zer, Zes, Zet, Zeu, Zev, Zew, Zex, Zey, Zez, Zfa, Zfb, Zfc, Zfd, List.isEmpty_nil, List.isEmpty_cons, Zfe, Zff, Zfg, Zfh, vInt, Option.getD_some, Option.getD_none, List.set_cons_zero, List.set_cons_succ, put, putL, setParts, List.length_append, List.length_set, Zfi, Zfj, Zfk, Zfl, Zfm, Zfn, Zfo, Zfp, Zfq, Zfr, loopB, loopsIn, List.getD_cons_zero, List.getD_cons_succ, Zfs, Zft, Zfu, Zfv, Zfw, Zfx, Zfy, Zfz, Zga, Zgb, Zgc, Zgd, Zge, Zgf, Zgg, Zgh, Zgi, Zgj, Zgk, Zgl, Zgm, Nat.reduceSub, Nat.reducePow, Nat.reduceDiv, Nat.reduceMod, end0s, end1s, endS0s, endS1s, Zgn, zero_55, cv_5_3, sz_55, agg_55, bd_55, fo_55_1, und_53, sz_5, agg_5, keep_77, E_masks, masks, E_rows, Tryz.f77, rep16, leafs_ofBytes, List.length_replicate, hc1, w0, hc37, e1, storeE, frzL_bytes]
    obtain ⟨ds', q', g1, g2⟩ := fz_rd (l := [Row.row 18 0 [.agg [.v (.bool false), .agg (ofBytes (List.replicate 16 0)), .v (.int .i64 0)]] ⟨true, 55⟩]) (r := .tup [zeroPre.av, .v (.int .i64 r1.e)]) (r' := .tup [zeroPre.av, .v (.int .i64 r1.e)]) (D.merge (D.refl id r) hd1 hlt) hr
    exact ⟨ds', q', congrArg some g1, g2⟩

/-- What is read as a metric and a number. -/
def Rd.numbers (r : Rd) : Int × Rd × Option (Nat × Nat) :=
  let m := r.uint.1
  let r1 := r.uint.2
  if r1.e ≠ 0 then (r1.e, r1, none) else if 65535 ≤ m then (1, r1, none) else
  let q := r1.uint.1
  let r2 := r1.uint.2
  if r2.e ≠ 0 then (r2.e, r2, none) else if 4294967296 ≤ q then (7, r2, none) else (0, r2, some (m, q))

def D2 (id L : Nat) (ds : List Nat) (a b : Rd) : Prop := (∀ i ∈ ds, i = id ∨ i = L) ∧ (id ∉ ds → b = a)
theorem D.to2 {id L : Nat} {ds : List Nat} {a b : Rd} (h : D id ds a b) : D2 id L ds a b := by
  refine ⟨fun i hi => .inl (h.1 i hi), fun hn => h.2 ?_⟩
  cases ds with
  | nil => rfl
  | cons i l => exact (hn (by rw [h.1 i (List.mem_cons_self ..)]; exact List.mem_cons_self ..)).elim
theorem mem_ins {a i : Nat} {l : List Nat} : i ∈ ins a l ↔ i = a ∨ i ∈ l := by
  unfold ins
  cases he : l.elem a with
  | true =>
    rw [cond_true]
    have : a ∈ l := by simpa using he
    constructor
    · exact .inr
    · rintro (rfl | h)
      · exact this
      · exact h
  | false => rw [cond_false]; exact List.mem_cons
theorem mem_mergeLt {n0 i : Nat} : ∀ {l r : List Nat}, i ∈ mergeLt n0 l r ↔ (i ∈ l ∧ i < n0) ∨ i ∈ r
  | [], r => by simp [mergeLt]
  | a :: l, r => by
    show i ∈ mergeLt n0 l (insLt n0 a r) ↔ _
    rw [mem_mergeLt]
    unfold insLt
    rw [bltE]
    by_cases ha : a < n0
    · rw [decide_eq_true ha, cond_true, mem_ins]
      constructor
      · rintro (⟨h1, h2⟩ | h | h)
        · exact .inl ⟨List.mem_cons_of_mem _ h1, h2⟩
        · exact .inl ⟨by rw [h]; exact List.mem_cons_self .., by rw [h]; exact ha⟩
        · exact .inr h
      · rintro (⟨h1, h2⟩ | h)
        · rcases List.mem_cons.1 h1 with h1 | h1
          · exact .inr (.inl h1)
          · exact .inl ⟨h1, h2⟩
        · exact .inr (.inr h)
    · rw [decide_eq_false ha, cond_false]
      constructor
      · rintro (⟨h1, h2⟩ | h)
        · exact .inl ⟨List.mem_cons_of_mem _ h1, h2⟩
        · exact .inr h
      · rintro (⟨h1, h2⟩ | h)
        · rcases List.mem_cons.1 h1 with h1 | h1
          · subst h1; omega
          · exact .inl ⟨h1, h2⟩
        · exact .inr h
theorem D.merge2 {id L n0 : Nat} {d1 d2 : List Nat} {a b c : Rd} (h1 : D id d1 a b) (h2 : D2 id L d2 b c) (hn : id < n0) (hL : n0 ≤ L) : D id (mergeLt n0 d2 d1) a c := by
  refine ⟨fun i hi => ?_, fun h => ?_⟩
  · rcases mem_mergeLt.1 hi with ⟨h, hlt⟩ | h
    · rcases h2.1 i h with h | h
      · exact h
      · omega
    · exact h1.1 i h
  · have hd1 : d1 = [] := by
      cases d1 with
      | nil => rfl
      | cons i l =>
        have : i ∈ mergeLt n0 d2 (i :: l) := mem_mergeLt.2 (.inr (List.mem_cons_self ..))
        rw [h] at this; cases this
    have hid : id ∉ d2 := fun hm => by
      have : id ∈ mergeLt n0 d2 d1 := mem_mergeLt.2 (.inl ⟨hm, hn⟩)
      rw [h] at this; cases this
    rw [h2.2 hid, h1.2 hd1]
theorem fz_ne {h0 h : Heap} {r r' : AV} {ds : List Nat} (hd : ds ≠ []) : fzO h0 r h ds (some r') = (r', h.take h0.length, ⟨ds, [], false⟩) := by
  cases ds with
  | nil => exact (hd rfl).elim
  | cons i l => rfl

def incRow (i : Inc) : Row := .row 21 0 [i.av] ⟨true, 60⟩
def withNums (i : Inc) (mq : Nat × Nat) : Inc := ⟨i.kind, ⟨i.r.to, mq.1, mq.2⟩⟩

theorem c78 (n : Nat) (h : Heap) (id L : Nat) (r : Rd) (i : Inc) (hi : i.ok) (hr : h[id]? = some (rdr r)) (hL : h[L]? = some (incRow i)) (hne : L ≠ id) : ∃ ds q, call E (n + 504) 78 [rp id, .ptr L 0 0 [1] 1] h = some (.v (.int .i64 r.numbers.1), (match r.numbers.2.2 with | none => h.set id (rdr r.numbers.2.1) | some mq => (h.set id (rdr r.numbers.2.1)).set L (incRow (withNums i mq))), ⟨ds, [], q⟩) ∧ D2 id L ds r r.numbers.2.1 := by
  have hlt : id < h.length := (List.getElem?_eq_some_iff.1 hr).1
  have hltL : L < h.length := (List.getElem?_eq_some_iff.1 hL).1
  obtain ⟨d1, q1, hc1, hd1⟩ := c36 n h id r hr
  generalize hu : r.uint = uu at *
  obtain ⟨m, r1⟩ := uu
  simp only at hc1 hd1
  have hlt1 : id < (h.set id (rdr r1)).length := by simpa using hlt
  have hr1 : (h.set id (rdr r1))[id]? = some (rdr r1) := set_get hlt
  have hc37 := fun n => c37 n (h.set id (rdr r1)) id r1 hr1
  have hnum : r.numbers = (if r1.e ≠ 0 then (r1.e, r1, none) else if 65535 ≤ m then (1, r1, none) else if r1.uint.2.e ≠ 0 then (r1.uint.2.e, r1.uint.2, none) else if 4294967296 ≤ r1.uint.1 then (7, r1.uint.2, none) else (0, r1.uint.2, some (m, r1.uint.1))) := by
    unfold Rd.numbers; rw [hu]
  have hD1 := D.merge (D.refl id r) hd1 hlt
  by_cases he1 : r1.e = 0
  · have e1 : (r1.e != 0) = false := by simp [he1]
    rw [if_neg (by simp [he1])] at hnum
    by_cases hm : 65535 ≤ m
    · rw [if_pos hm] at hnum
      have hm' : (65535 : Int) ≤ m := by omega
      rw [hnum]
      rw [call_at (E := E) (f := 78) (fn := Tryz.f78) rfl Tryz.func78 rfl (Nat.le_of_ble_eq_true rfl)]
      simp -implicitDefEqProofs only [Zaa, Zab, Zac, Zad, Zae, Zaf, Zag, Zah, Zai, Zaj, Zak, Zal, Zam, Zan, Zao, Zap, Zaq, Zar, Zas, Zat, Zau, Zav, Zaw, Zax, Zay, Zaz, Zba, Zbb, Zbc, Zbd, Zbe, Zbf, Zbg, Zbh, Zbi, Zbj, Zbk, Zbl, Zbm, Zbn, Zbo, Zbp, Zbq, Zbr, Zbs, Zbt, Zbu, Zbv, Zbw, Zbx, Zby, Zbz, Zca, Zcb, Zcc, Zcd, Zce, Zcf, Zcg, Zch, Zci, Zcj, Zck, Zcl, Zcm, Zcn, Zco, Zcp, exL, Zcq, Zcr, nlC, Zcs, Zct, Zcu, Zcv, Zcw, Zcx, Zcy, Zcz, Zda, Zdb, Zdc, Zdd, Zde, Zdf, Zdg, Zdh, Zdi, Zdj, Zdk, Zdl, Zdm, Zdn, Zdo, Zdp, Zdq, Zdr, Zds, Zdt, Zdu, Zdv, Zdw, Zdx, Zdy, Zdz, Zea, Zeb, Zec, Zed, Zee, Zef, Zeg, Zeh, Zei, Zej, end0, end1, endS0, endS1, args0, oneOrTup, cond_true, cond_false, ite_true, ite_false, bleE, bltE, beqE, decide_true, decide_false, Bool.not_false, Bool.not_true, Bool.and_true, Bool.true_and, Bool.and_false, Bool.false_and, Nat.reduceAdd, Nat.reduceLT, Nat.reduceEqDiff, Nat.reduceLeDiff, Nat.reduceMul, leafsL, idfree, idfreeL, loadE, Zek, Zel, partE, fieldAddrE, nav, navL, List.nil_append, List.cons_append, List.append_assoc, List.getElem?_cons_zero, List.getElem?_cons_succ, List.length_cons, List.length_nil, beq_self_eq_true, Bool.true_beq, Bool.false_beq, Zem, Zen, Zeo, Zep, Zeq, frz, frzL, List.getElem?_toArray, Option.bind_some, Int.cast_ofNat_Int, Int.reduceBEq, Int.reduceBNe, Int.reduceLT, Int.reduceLE, Int.reduceAdd, Int.reduceSub, Int.reduceMul, Int.reduceNeg, Zer, Zes, Zet, Zeu, Zev, Zew, Zex, Zey, Zez, Zfa, Zfb, Zfc, Zfd, List.isEmpty_nil, List.isEmpty_cons, Zfe, Zff, Zfg, Zfh, vInt, Option.getD_some, Option.getD_none, List.set_cons_zero, List.set_cons_succ, put, putL, setParts, List.length_append, List.length_set, Zfi, Zfj, Zfk, Zfl, Zfm, Zfn, Zfo, Zfp, Zfq, Zfr, loopB, loopsIn, List.getD_cons_zero, List.getD_cons_succ, Zfs, Zft, Zfu, Zfv, Zfw, Zfx, Zfy, Zfz, Zga, Zgb, Zgc, Zgd, Zge, Zgf, Zgg, Zgh, Zgi, Zgj, Zgk, Zgl, Zgm, Nat.reduceSub, Nat.reducePow, Nat.reduceDiv, Nat.reduceMod, end0s, end1s, endS0s, endS1s, Zgn, cv_71_3, cv_71_56, fo_58_1, sz_3, fo_58_2, sz_56, keep_78, E_masks, masks, E_rows, Tryz.f78, hc1, hc37, e1, hm']
      obtain ⟨ds', q', g1, g2⟩ := fz_rd0 (r := .v (.int .i64 1)) (r' := .v (.int .i64 1)) hD1 hr
      exact ⟨ds', q', congrArg some g1, g2.to2⟩
    · rw [if_neg hm] at hnum
      have hm' : ¬ (65535 : Int) ≤ m := by omega
      obtain ⟨d2, q2, hc2, hd2⟩ := c36 n (h.set id (rdr r1)) id r1 hr1
      rw [List.set_set] at hc2
      generalize hu2 : r1.uint = uu at *
      obtain ⟨q, r2⟩ := uu
      simp only at hc2 hd2 hnum
      have hr2 : (h.set id (rdr r2))[id]? = some (rdr r2) := set_get hlt
      have hc372 := fun n => c37 n (h.set id (rdr r2)) id r2 hr2
      have hD2 := hD1.merge hd2 hlt
      by_cases he2 : r2.e = 0
      · have e2 : (r2.e != 0) = false := by simp [he2]
        rw [if_neg (by simp [he2])] at hnum
        by_cases hq : 4294967296 ≤ q
        · rw [if_pos hq] at hnum
          have hq' : (4294967296 : Int) ≤ q := by omega
          rw [hnum]
          rw [call_at (E := E) (f := 78) (fn := Tryz.f78) rfl Tryz.func78 rfl (Nat.le_of_ble_eq_true rfl)]
          simp -implicitDefEqProofs only [Zaa, Zab, Zac, Zad, Zae, Zaf, Zag, Zah, Zai, Zaj, Zak, Zal, Zam, Zan, Zao, Zap, Zaq, Zar, Zas, Zat, Zau, Zav, Zaw, Zax, Zay, Zaz, Zba, Zbb, Zbc, Zbd, Zbe, Zbf, Zbg, Zbh, Zbi, Zbj, Zbk, Zbl, Zbm, Zbn, Zbo, Zbp, Zbq, Zbr, Zbs, Zbt, Zbu, Zbv, Zbw, Zbx, Zby, Zbz, Zca, Zcb, Zcc, Zcd, Zce, Zcf, Zcg, Zch, Zci, Zcj, Zck, Zcl, Zcm, Zcn, Zco, Zcp, exL, Zcq, Zcr, nlC, Zcs, Zct, Zcu, Zcv, Zcw, Zcx, Zcy, Zcz, Zda, Zdb, Zdc, Zdd, Zde, Zdf, Zdg, Zdh, Zdi, Zdj, Zdk, Zdl, Zdm, Zdn, Zdo, Zdp, Zdq, Zdr, Zds, Zdt, Zdu, Zdv, Zdw, Zdx, Zdy, Zdz, Zea, Zeb, Zec, Zed, Zee, Zef, Zeg, Zeh, Zei, Zej, end0, end1, endS0, endS1, args0, oneOrTup, cond_true, cond_false, ite_true, ite_false, bleE, bltE, beqE, decide_true, decide_false, Bool.not_false, Bool.not_true, Bool.and_true, Bool.true_and, Bool.and_false, Bool.false_and, Nat.reduceAdd, Nat.reduceLT, Nat.reduceEqDiff, Nat.reduceLeDiff, Nat.reduceMul, leafsL, idfree, idfreeL, loadE, Zek, Zel, partE, fieldAddrE, nav, navL, List.nil_append, List.cons_append, List.append_assoc, List.getElem?_cons_zero, List.getElem?_cons_succ, List.length_cons, List.length_nil, beq_self_eq_true, Bool.true_beq, Bool.false_beq, Zem, Zen, Zeo, Zep, Zeq, frz, frzL, List.getElem?_toArray, Option.bind_some, Int.cast_ofNat_Int, Int.reduceBEq, Int.reduceBNe, Int.reduceLT, Int.reduceLE, Int.reduceAdd, Int.reduceSub, Int.reduceMul, Int.reduceNeg, Zer, Zes, Zet, Zeu, Zev, Zew, Zex, Zey, Zez, Zfa, Zfb, Zfc, Zfd, List.isEmpty_nil, List.isEmpty_cons, Zfe, Zff, Zfg, Zfh, vInt, Option.getD_some, Option.getD_none, List.set_cons_zero, List.set_cons_succ, put, putL, setParts, List.length_append, List.length_set, Zfi, Zfj, Zfk, Zfl, Zfm, Zfn, Zfo, Zfp, Zfq, Zfr, loopB, loopsIn, List.getD_cons_zero, List.getD_cons_succ, Zfs, Zft, Zfu, Zfv, Zfw, Zfx, Zfy, Zfz, Zga, Zgb, Zgc, Zgd, Zge, Zgf, Zgg, Zgh, Zgi, Zgj, Zgk, Zgl, Zgm, Nat.reduceSub, Nat.reducePow, Nat.reduceDiv, Nat.reduceMod, end0s, end1s, endS0s, endS1s, Zgn, cv_71_3, cv_71_56, fo_58_1, sz_3, fo_58_2, sz_56, keep_78, E_masks, masks, E_rows, Tryz.f78, hc1, hc37, e1, hm', hc2, hc372, e2, hq']
          obtain ⟨ds', q', g1, g2⟩ := fz_rd0 (r := .v (.int .i64 7)) (r' := .v (.int .i64 7)) hD2 hr
          exact ⟨ds', q', congrArg some g1, g2.to2⟩
        · rw [if_neg hq] at hnum
          have hq' : ¬ (4294967296 : Int) ≤ q := by omega
          have w1 : IntKind.i64.wrap (m : Int) = m := wrapN (by omega)
          have w2 : IntKind.u32.wrap (q : Int) = q := wrap_u32 (by omega) (by omega)
          have hpl : AM.leafs i.r.to.av = 18 := Pre.leafs hi.2.1
          have hLs : (h.set id (rdr r2))[L]? = some (.row 21 0 [.agg [.v (.int .i64 i.kind), .agg [i.r.to.av, .v (.int .i64 i.r.metric), .v (.int .u32 i.r.seq)]]] ⟨true, 60⟩) := by rw [List.getElem?_set_ne (Ne.symm hne)]; exact hL
          have hltL2 : L < (h.set id (rdr r2)).length := by simpa using hltL
          have hLg : ∀ x, ((h.set id (rdr r2)).set L x)[L]? = some x := fun x => set_get hltL2
          rw [hnum]
          rw [call_at (E := E) (f := 78) (fn := Tryz.f78) rfl Tryz.func78 rfl (Nat.le_of_ble_eq_true rfl)]
          simp -implicitDefEqProofs only [Zaa, Zab, Zac, Zad, Zae, Zaf, Zag, Zah, Zai, Zaj, Zak, Zal, Zam, Zan, Zao, Zap, Zaq, Zar, Zas, Zat, Zau, Zav, Zaw, Zax, Zay, Zaz, Zba, Zbb, Zbc, Zbd, Zbe, Zbf, Zbg, Zbh, Zbi, Zbj, Zbk, Zbl, Zbm, Zbn, Zbo, Zbp, Zbq, Zbr, Zbs, Zbt, Zbu, Zbv, Zbw, Zbx, Zby, Zbz, Zca, Zcb, Zcc, Zcd, Zce, Zcf, Zcg, Zch, Zci, Zcj, Zck, Zcl, Zcm, Zcn, Zco, Zcp, exL, Zcq, Zcr, nlC, Zcs, Zct, Zcu, Zcv, Zcw, Zcx, Zcy, Zcz, Zda, Zdb, Zdc, Zdd, Zde, Zdf, Zdg, Zdh, Zdi, Zdj, Zdk, Zdl, Zdm, Zdn, Zdo, Zdp, Zdq, Zdr, Zds, Zdt, Zdu, Zdv, Zdw, Zdx, Zdy, Zdz, Zea, Zeb, Zec, Zed, Zee, Zef, Zeg, Zeh, Zei, Zej, end0, end1, endS0, endS1, args0, oneOrTup, cond_true, cond_false, ite_true, ite_false, bleE, bltE, beqE, decide_true, decide_false, Bool.not_false, Bool.not_true, Bool.and_true, Bool.true_and, Bool.and_false, Bool.false_and, Nat.reduceAdd, Nat.reduceLT, Nat.reduceEqDiff, Nat.reduceLeDiff, Nat.reduceMul, leafsL, idfree, idfreeL, loadE, Zek, Zel, partE, fieldAddrE, nav, navL, List.nil_append, List.cons_append, List.append_assoc, List.getElem?_cons_zero, List.getElem?_cons_succ, List.length_cons, List.length_nil, beq_self_eq_true, Bool.true_beq, Bool.false_beq, Zem, Zen, Zeo, Zep, Zeq, frz, frzL, List.getElem?_toArray, Option.bind_some, Int.cast_ofNat_Int, Int.reduceBEq, Int.reduceBNe, Int.reduceLT, Int.reduceLE, Int.reduceAdd, Int.reduceSub, Int.reduceMul, Int.reduceNeg, Zer, Zes, Zet, Zeu, Zev, Zew, Zex, Zey, Zez, Zfa, Zfb, Zfc, Zfd, List.isEmpty_nil, List.isEmpty_cons, Zfe, Zff, Zfg, Zfh, vInt, Option.getD_some, Option.getD_none, List.set_cons_zero, List.set_cons_succ, put, putL, setParts, List.length_append, List.length_set, Zfi, Zfj, Zfk, Zfl, Zfm, Zfn, Zfo, Zfp, Zfq, Zfr, loopB, loopsIn, List.getD_cons_zero, List.getD_cons_succ, Zfs, Zft, Zfu, Zfv, Zfw, Zfx, Zfy, Zfz, Zga, Zgb, Zgc, Zgd, Zge, Zgf, Zgg, Zgh, Zgi, Zgj, Zgk, Zgl, Zgm, Nat.reduceSub, Nat.reducePow, Nat.reduceDiv, Nat.reduceMod, end0s, end1s, endS0s, endS1s, Zgn, cv_71_3, cv_71_56, fo_58_1, sz_3, fo_58_2, sz_56, keep_78, E_masks, masks, E_rows, Tryz.f78, hc1, hc37, e1, hm', hc2, hc372, e2, hq', w1, w2, hLs, hLg, hpl, storeE, List.set_set, hltL]
          rw [fz_ne ins_ne, List.take_of_length_le (by simp)]
          refine ⟨_, _, rfl, fun j hj => ?_, fun hn => ?_⟩
          · rw [mem_ins, mem_ins] at hj
            rcases hj with hj | hj | hj
            · exact .inr hj
            · exact .inr hj
            · exact .inl (hD2.1 j hj)
          · refine hD2.to2 (L := L).2 fun hm2 => hn ?_
            rw [mem_ins, mem_ins]
            exact .inr (.inr hm2)
      · have e2 : (r2.e != 0) = true := by simp [he2]
        rw [if_pos he2] at hnum
        rw [hnum]
        rw [call_at (E := E) (f := 78) (fn := Tryz.f78) rfl Tryz.func78 rfl (Nat.le_of_ble_eq_true rfl)]
        simp -implicitDefEqProofs only [Zaa, Zab, Zac, Zad, Zae, Zaf, Zag, Zah, Zai, Zaj, Zak, Zal, Zam, Zan, Zao, Zap, Zaq, Zar, Zas, Zat, Zau, Zav, Zaw, Zax, Zay, Zaz, Zba, Zbb, Zbc, Zbd, Zbe, Zbf, Zbg, Zbh, Zbi, Zbj, Zbk, Zbl, Zbm, Zbn, Zbo, Zbp, Zbq, Zbr, Zbs, Zbt, Zbu, Zbv, Zbw, Zbx, Zby, Zbz, Zca, Zcb, Zcc, Zcd, Zce, Zcf, Zcg, Zch, Zci, Zcj, Zck, Zcl, Zcm, Zcn, Zco, Zcp, exL, Zcq, Zcr, nlC, Zcs, Zct, Zcu, Zcv, Zcw, Zcx, Zcy, Zcz, Zda, Zdb, Zdc, Zdd, Zde, Zdf, Zdg, Zdh, Zdi, Zdj, Zdk, Zdl, Zdm, Zdn, Zdo, Zdp, Zdq, Zdr, Zds, Zdt, Zdu, Zdv, Zdw, Zdx, Zdy, Zdz, Zea, Zeb, Zec, Zed, Zee, Zef, Zeg, Zeh, Zei, Zej, end0, end1, endS0, endS1, args0, oneOrTup, cond_true, cond_false, ite_true, ite_false, bleE, bltE, beqE, decide_true, decide_false, Bool.not_false, Bool.not_true, Bool.and_true, Bool.true_and, Bool.and_false, Bool.false_and, Nat.reduceAdd, Nat.reduceLT, Nat.reduceEqDiff, Nat.reduceLeDiff, Nat.reduceMul, leafsL, idfree, idfreeL, loadE, Zek, Zel, partE, fieldAddrE, nav, navL, List.nil_append, List.cons_append, List.append_assoc, List.getElem?_cons_zero, List.getElem?_cons_succ, List.length_cons, List.length_nil, beq_self_eq_true, Bool.true_beq, Bool.false_beq, Zem, Zen, Zeo, Zep, Zeq, frz, frzL, List.getElem?_toArray, Option.bind_some, Int.cast_ofNat_Int, Int.reduceBEq, Int.reduceBNe, Int.reduceLT, Int.reduceLE, Int.reduceAdd, Int.reduceSub, Int.reduceMul, Int.reduceNeg, Zer, Zes, Zet, Zeu, Zev, Zew, Zex, Zey, Zez, Zfa, Zfb, Zfc, Zfd, List.isEmpty_nil, List.isEmpty_cons, Zfe, Zff, Zfg, Zfh, vInt, Option.getD_some, Option.getD_none, List.set_cons_zero, List.set_cons_succ, put, putL, setParts, List.length_append, List.length_set, Zfi, Zfj, Zfk, Zfl, Zfm, Zfn, Zfo, Zfp, Zfq, Zfr, loopB, loopsIn, List.getD_cons_zero, List.getD_cons_succ, Zfs, Zft, Zfu, Zfv, Zfw, Zfx, Zfy, Zfz, Zga, Zgb, Zgc, Zgd, Zge, Zgf, Zgg, Zgh, Zgi, Zgj, Zgk, Zgl, Zgm, Nat.reduceSub, Nat.reducePow, Nat.reduceDiv, Nat.reduceMod, end0s, end1s, endS0s, endS1s, Zgn, cv_71_3, cv_71_56, fo_58_1, sz_3, fo_58_2, sz_56, keep_78, E_masks, masks, E_rows, Tryz.f78, hc1, hc37, e1, hm', hc2, hc372, e2]
        obtain ⟨ds', q', g1, g2⟩ := fz_rd0 (r := .v (.int .i64 r2.e)) (r' := .v (.int .i64 r2.e)) hD2 hr
        exact ⟨ds', q', congrArg some g1, g2.to2⟩
  · have e1 : (r1.e != 0) = true := by simp [he1]
    rw [if_pos he1] at hnum
    rw [hnum]
    rw [call_at (E := E) (f := 78) (fn := Tryz.f78) rfl Tryz.func78 rfl (Nat.le_of_ble_eq_true rfl)]
    simp -implicitDefEqProofs only [Zaa, Zab, Zac, Zad, Zae, Zaf, Zag, Zah, Zai, Zaj, Zak, Zal, Zam, Zan, Zao, Zap, Zaq, Zar, Zas, Zat, Zau, Zav, Zaw, Zax, Zay, Zaz, Zba, Zbb, Zbc, Zbd, Zbe, Zbf, Zbg, Zbh, Zbi, Zbj, Zbk, Zbl, Zbm, Zbn, Zbo, Zbp, Zbq, Zbr, Zbs, Zbt, Zbu, Zbv, Zbw, Zbx, Zby, Zbz, Zca, Zcb, Zcc, Zcd, Zce, Zcf, Zcg, Zch, Zci, Zcj, Zck, Zcl, Zcm, Zcn, Zco, Zcp, exL, Zcq, Zcr, nlC, Zcs, Zct, Zcu, Zcv, Zcw, Zcx, Zcy, Zcz, Zda, Zdb, Zdc, Zdd, Zde, Zdf, Zdg, Zdh, Zdi, Zdj, Zdk, Zdl, Zdm, Zdn, Zdo, Zdp, Zdq, Zdr, Zds, Zdt, Zdu, Zdv, Zdw, Zdx, Zdy, Zdz, Zea, Zeb, Zec, Zed, Zee, Zef, Zeg, Zeh, Zei, Zej, end0, end1, endS0, endS1, args0, oneOrTup, cond_true, cond_false, ite_true, ite_false, bleE, bltE, beqE, decide_true, decide_false, Bool.not_false, Bool.not_true, Bool.and_true, Bool.true_and, Bool.and_false, Bool.false_and, Nat.reduceAdd, Nat.reduceLT, Nat.reduceEqDiff, Nat.reduceLeDiff, Nat.reduceMul, leafsL, idfree, idfreeL, loadE, Zek, Zel, partE, fieldAddrE, nav, navL, List.nil_append, List.cons_append, List.append_assoc, List.getElem?_cons_zero, List.getElem?_cons_succ, List.length_cons, List.length_nil, beq_self_eq_true, Bool.true_beq, Bool.false_beq, Zem, Zen, Zeo, Zep, Zeq, frz, frzL, List.getElem?_toArray, Option.bind_some, Int.cast_ofNat_Int, Int.reduceBEq, Int.reduceBNe, Int.reduceLT, Int.reduceLE, Int.reduceAdd, Int.reduceSub, Int.reduceMul, Int.reduceNeg, Zer, Zes, Zet, Zeu, Zev, Zew, Zex, Zey, Zez, Zfa, Zfb, Zfc, Zfd, List.isEmpty_nil, List.isEmpty_cons, Zfe, Zff, Zfg, Zfh, vInt, Option.getD_some, Option.getD_none, List.set_cons_zero, List.set_cons_succ, put, putL, setParts, List.length_append, List.length_set, Zfi, Zfj, Zfk, Zfl, Zfm, Zfn, Zfo, Zfp, Zfq, Zfr, loopB, loopsIn, List.getD_cons_zero, List.getD_cons_succ, Zfs, Zft, Zfu, Zfv, Zfw, Zfx, Zfy, Zfz, Zga, Zgb, Zgc, Zgd, Zge, Zgf, Zgg, Zgh, Zgi, Zgj, Zgk, Zgl, Zgm, Nat.reduceSub, Nat.reducePow, Nat.reduceDiv, Nat.reduceMod, end0s, end1s, endS0s, endS1s, Zgn, cv_71_3, cv_71_56, fo_58_1, sz_3, fo_58_2, sz_56, keep_78, E_masks, masks, E_rows, Tryz.f78, hc1, hc37, e1]
    obtain ⟨ds', q', g1, g2⟩ := fz_rd0 (r := .v (.int .i64 r1.e)) (r' := .v (.int .i64 r1.e)) hD1 hr
    exact ⟨ds', q', congrArg some g1, g2.to2⟩

/-- What is read as a change. -/
def Rd.one (r : Rd) : Inc × Int × Rd :=
  let k : Int := (r.byte.1.toNat : Nat)
  let r1 := r.byte.2
  let i0 : Inc := ⟨k, bare zeroPre⟩
  if r1.e ≠ 0 then (i0, r1.e, r1) else if k < 1 ∨ 3 < k then (i0, 4, r1) else
  let p := r1.pre.1
  let r2 := r1.pre.2.2
  let i1 : Inc := ⟨k, bare p⟩
  if r1.pre.2.1 ≠ 0 then (i1, r1.pre.2.1, r2) else if k = 3 then (i1, 0, r2) else
  match r2.numbers.2.2 with
  | none => (i1, r2.numbers.1, r2.numbers.2.1)
  | some mq => (withNums i1 mq, r2.numbers.1, r2.numbers.2.1)

theorem pre_ok (r : Rd) : r.pre.1.ok := by
  have hz : zeroPre.ok := ⟨rfl, by unfold i64 zeroPre; simp⟩
  have hcl := r.byte.1.toNat_lt
  have hl0 : 0 ≤ (if 64 ≤ (r.byte.1.toNat : Int) then (r.byte.1.toNat : Int) - 64 else (r.byte.1.toNat : Int)) ∧ (if 64 ≤ (r.byte.1.toNat : Int) then (r.byte.1.toNat : Int) - 64 else (r.byte.1.toNat : Int)) ≤ 255 := by split <;> omega
  unfold Rd.pre
  dsimp only
  generalize (if 64 ≤ (r.byte.1.toNat : Int) then (r.byte.1.toNat : Int) - 64 else (r.byte.1.toNat : Int)) = len at *
  generalize decide (64 ≤ (r.byte.1.toNat : Int)) = six at *
  have hwid := width_le six
  have hl := raw_len r.byte.2 ((len + 7) / 8)
  generalize r.byte.2.raw ((len + 7) / 8) = sr at *
  by_cases h1 : r.byte.2.e ≠ 0
  · rw [if_pos h1]; exact hz
  · rw [if_neg h1]
    by_cases h2 : width six < len
    · rw [if_pos h2]; exact hz
    · rw [if_neg h2]
      by_cases h3 : sr.2.e ≠ 0
      · rw [if_pos h3]; exact hz
      · rw [if_neg h3]
        by_cases h4 : right ⟨six, padded sr.1, len⟩ = false
        · rw [if_pos h4]; exact hz
        · rw [if_neg h4]
          refine ⟨?_, ?_⟩
          · show (padded sr.1).length = 16
            simp only [padded, List.length_append, List.length_drop, List.length_replicate]
            omega
          · unfold i64
            show _ ≤ len ∧ len ≤ _
            omega

theorem frz_inc {n0 : Nat} {h : Heap} (i : Inc) : frz n0 h i.av = some i.av := by simp [Inc.av, Route.av, frz, frzL, frz_pre]

theorem c38 (n : Nat) (h : Heap) (id : Nat) (r : Rd) (hr : h[id]? = some (rdr r)) : ∃ ds q, call E (n + 505) 38 [rp id] h = some (.tup [r.one.1.av, .v (.int .i64 r.one.2.1)], h.set id (rdr r.one.2.2), ⟨ds, [], q⟩) ∧ D id ds r r.one.2.2 := by
  have hlt : id < h.length := (List.getElem?_eq_some_iff.1 hr).1
  have hz16 : leafsL (ofBytes (List.replicate 16 (0 : UInt8))) = 16 := by rw [leafs_ofBytes]; rfl
  have hrz : (h ++ [Row.row 21 0 [.agg [.v (.int .i64 0), .agg [.agg [.v (.bool false), .agg (ofBytes (List.replicate 16 0)), .v (.int .i64 0)], .v (.int .i64 0), .v (.int .u32 0)]]] ⟨true, 60⟩])[id]? = some (rdr r) := by rw [app_get hlt]; exact hr
  obtain ⟨d1, q1, hc1, hd1⟩ := c75 (n + 2) (h ++ [Row.row 21 0 [.agg [.v (.int .i64 0), .agg [.agg [.v (.bool false), .agg (ofBytes (List.replicate 16 0)), .v (.int .i64 0)], .v (.int .i64 0), .v (.int .u32 0)]]] ⟨true, 60⟩]) id r hrz
  simp only [Nat.add_assoc, Nat.reduceAdd] at hc1
  rw [set_app hlt] at hc1
  have hcl := r.byte.1.toNat_lt
  have w0 : IntKind.i64.wrap (r.byte.1.toNat : Int) = (r.byte.1.toNat : Int) := wrapN (by omega)
  have hone : r.one = (if r.byte.2.e ≠ 0 then (⟨(r.byte.1.toNat : Int), bare zeroPre⟩, r.byte.2.e, r.byte.2) else if (r.byte.1.toNat : Int) < 1 ∨ 3 < (r.byte.1.toNat : Int) then (⟨(r.byte.1.toNat : Int), bare zeroPre⟩, 4, r.byte.2) else
      if r.byte.2.pre.2.1 ≠ 0 then (⟨(r.byte.1.toNat : Int), bare r.byte.2.pre.1⟩, r.byte.2.pre.2.1, r.byte.2.pre.2.2) else if (r.byte.1.toNat : Int) = 3 then (⟨(r.byte.1.toNat : Int), bare r.byte.2.pre.1⟩, 0, r.byte.2.pre.2.2) else
      match r.byte.2.pre.2.2.numbers.2.2 with
      | none => (⟨(r.byte.1.toNat : Int), bare r.byte.2.pre.1⟩, r.byte.2.pre.2.2.numbers.1, r.byte.2.pre.2.2.numbers.2.1)
      | some mq => (withNums ⟨(r.byte.1.toNat : Int), bare r.byte.2.pre.1⟩ mq, r.byte.2.pre.2.2.numbers.1, r.byte.2.pre.2.2.numbers.2.1)) := by
    unfold Rd.one; dsimp only
  generalize r.byte = bb at *
  obtain ⟨c, r1⟩ := bb
  simp only at hc1 hd1 hcl w0 hone
  have hlt1 : id < (h.set id (rdr r1)).length := by simpa using hlt
  have hr1 : (h.set id (rdr r1) ++ [Row.row 21 0 [.agg [.v (.int .i64 (c.toNat : Int)), .agg [.agg [.v (.bool false), .agg (ofBytes (List.replicate 16 0)), .v (.int .i64 0)], .v (.int .i64 0), .v (.int .u32 0)]]] ⟨true, 60⟩])[id]? = some (rdr r1) := by rw [app_get hlt1, set_get hlt]
  have hc37 := fun n => c37 n (h.set id (rdr r1) ++ [Row.row 21 0 [.agg [.v (.int .i64 (c.toNat : Int)), .agg [.agg [.v (.bool false), .agg (ofBytes (List.replicate 16 0)), .v (.int .i64 0)], .v (.int .i64 0), .v (.int .u32 0)]]] ⟨true, 60⟩]) id r1 hr1
  have hD1 := D.merge (D.refl id r) hd1 hlt
  by_cases he1 : r1.e = 0
  · have e1 : (r1.e != 0) = false := by simp [he1]
    rw [if_neg (by simp [he1])] at hone
    by_cases hk : (c.toNat : Int) < 1 ∨ 3 < (c.toNat : Int)
    · rw [if_pos hk] at hone
      rw [hone]
      rcases hk with hk | hk
      · rw [call_at (E := E) (f := 38) (fn := Tryz.f38) rfl Tryz.func38 rfl (Nat.le_of_ble_eq_true rfl)]
        simp -implicitDefEqProofs only [Zaa, Zab, Zac, Zad, Zae, Zaf, Zag, Zah, Zai, Zaj, Zak, Zal, Zam, Zan, Zao, Zap, Zaq, Zar, Zas, Zat, Zau, Zav, Zaw, Zax, Zay, Zaz, Zba, Zbb, Zbc, Zbd, Zbe, Zbf, Zbg, Zbh, Zbi, Zbj, Zbk, Zbl, Zbm, Zbn, Zbo, Zbp, Zbq, Zbr, Zbs, Zbt, Zbu, Zbv, Zbw, Zbx, Zby, Zbz, Zca, Zcb, Zcc, Zcd, Zce, Zcf, Zcg, Zch, Zci, Zcj, Zck, Zcl, Zcm, Zcn, Zco, Zcp, exL, Zcq, Zcr, nlC, Zcs, Zct, Zcu, Zcv, Zcw, Zcx, Zcy, Zcz, Zda, Zdb, Zdc, Zdd, Zde, Zdf, Zdg, Zdh, Zdi, Zdj, Zdk, Zdl, Zdm, Zdn, Zdo, Zdp, Zdq, Zdr, Zds, Zdt, Zdu, Zdv, Zdw, Zdx, Zdy, Zdz, Zea, Zeb, Zec, Zed, Zee, Zef, Zeg, Zeh, Zei, Zej, end0, end1, endS0, endS1, args0, oneOrTup, cond_true, cond_false, ite_true, ite_false, bleE, bltE, beqE, decide_true, decide_false, Bool.not_false, Bool.not_true, Bool.and_true, Bool.true_and, Bool.and_false, Bool.false_and, Nat.reduceAdd, Nat.reduceLT, Nat.reduceEqDiff, Nat.reduceLeDiff, Nat.reduceMul, leafsL, idfree, idfreeL, loadE, Zek, Zel, partE, fieldAddrE, nav, navL, List.nil_append, List.cons_append, List.append_assoc, List.getElem?_cons_zero, List.getElem?_cons_succ, List.length_cons, List.length_nil, beq_self_eq_true, Bool.true_beq, Bool.false_beq, Zem, Zen, Zeo, Zep, Zeq, frz, frzL, List.getElem?_toArray, Option.bind_some, Int.cast_ofNat_Int, Int.reduceBEq, Int.reduceBNe, Int.reduceLT, Int.reduceLE, Int.reduceAdd, Int.reduceSub, Int.reduceMul, Int.reduceNeg, Zer, Zes, Zet, Zeu, Zev, Zew, Zex, Zey, Zez, Zfa, Zfb, Zfc, Zfd, List.isEmpty_nil, List.isEmpty_cons, Zfe, Zff, Zfg, Zfh, vInt, Option.getD_some, Option.getD_none, List.set_cons_zero, List.set_cons_succ, put, putL, setParts, List.length_append, List.length_set, Zfi, Zfj, Zfk, Zfl, Zfm, Zfn, Zfo, Zfp, Zfq, Zfr, loopB, loopsIn, List.getD_cons_zero, List.getD_cons_succ, Zfs, Zft, Zfu, Zfv, Zfw, Zfx, Zfy, Zfz, Zga, Zgb, Zgc, Zgd, Zge, Zgf, Zgg, Zgh, Zgi, Zgj, Zgk, Zgl, Zgm, Nat.reduceSub, Nat.reducePow, Nat.reduceDiv, Nat.reduceMod, end0s, end1s, endS0s, endS1s, Zgn, zero_60, cv_5_3, fo_60_0, sz_3, sz_60, agg_60, agg_3, fo_60_1, fo_58_0, sz_55, keep_38, E_masks, masks, E_rows, Tryz.f38, rep16, hz16, hc1, w0, hc37, storeE, frzL_bytes, frz_pre, e1, hk]
        obtain ⟨ds', q', g1, g2⟩ := fz_rd (l := [Row.row 21 0 [.agg [.v (.int .i64 (c.toNat : Int)), .agg [.agg [.v (.bool false), .agg (ofBytes (List.replicate 16 0)), .v (.int .i64 0)], .v (.int .i64 0), .v (.int .u32 0)]]] ⟨true, 60⟩]) (r := .tup [Inc.av ⟨(c.toNat : Int), bare zeroPre⟩, .v (.int .i64 4)]) (r' := .tup [Inc.av ⟨(c.toNat : Int), bare zeroPre⟩, .v (.int .i64 4)]) hD1 hr
        exact ⟨ds', q', congrArg some g1, g2⟩
      · have hk1 : ¬ (c.toNat : Int) < 1 := by omega
        rw [call_at (E := E) (f := 38) (fn := Tryz.f38) rfl Tryz.func38 rfl (Nat.le_of_ble_eq_true rfl)]
        simp -implicitDefEqProofs only [Zaa, Zab, Zac, Zad, Zae, Zaf, Zag, Zah, Zai, Zaj, Zak, Zal, Zam, Zan, Zao, Zap, Zaq, Zar, Zas, Zat, Zau, Zav, Zaw, Zax, Zay, Zaz, Zba, Zbb, Zbc, Zbd, Zbe, Zbf, Zbg, Zbh, Zbi, Zbj, Zbk, Zbl, Zbm, Zbn, Zbo, Zbp, Zbq, Zbr, Zbs, Zbt, Zbu, Zbv, Zbw, Zbx, Zby, Zbz, Zca, Zcb, Zcc, Zcd, Zce, Zcf, Zcg, Zch, Zci, Zcj, Zck, Zcl, Zcm, Zcn, Zco, Zcp, exL, Zcq, Zcr, nlC, Zcs, Zct, Zcu, Zcv, Zcw, Zcx, Zcy, Zcz, Zda, Zdb, Zdc, Zdd, Zde, Zdf, Zdg, Zdh, Zdi, Zdj, Zdk, Zdl, Zdm, Zdn, Zdo, Zdp, Zdq, Zdr, Zds, Zdt, Zdu, Zdv, Zdw, Zdx, Zdy, Zdz, Zea, Zeb, Zec, Zed, Zee, Zef, Zeg, Zeh, Zei, Zej, end0, end1, endS0, endS1, args0, oneOrTup, cond_true, cond_false, ite_true, ite_false, bleE, bltE, beqE, decide_true, decide_false, Bool.not_false, Bool.not_true, Bool.and_true, Bool.true_and, Bool.and_false, Bool.false_and, Nat.reduceAdd, Nat.reduceLT, Nat.reduceEqDiff, Nat.reduceLeDiff, Nat.reduceMul, leafsL, idfree, idfreeL, loadE, Zek, Zel, partE, fieldAddrE, nav, navL, List.nil_append, List.cons_append, List.append_assoc, List.getElem?_cons_zero, List.getElem?_cons_succ, List.length_cons, List.length_nil, beq_self_eq_true, Bool.true_beq, Bool.false_beq, Zem, Zen, Zeo, Zep, Zeq, frz, frzL, List.getElem?_toArray, Option.bind_some, Int.cast_ofNat_Int, Int.reduceBEq, Int.reduceBNe, Int.reduceLT, Int.reduceLE, Int.reduceAdd, Int.reduceSub, Int.reduceMul, Int.reduceNeg, Zer, Zes, Zet, Zeu, Zev, Zew, Zex, Zey, Zez, Zfa, Zfb, Zfc, Zfd, List.isEmpty_nil, List.isEmpty_cons, Zfe, Zff, Zfg, Zfh, vInt, Option.getD_some, Option.getD_none, List.set_cons_zero, List.set_cons_succ, put, putL, setParts, List.length_append, List.length_set, Zfi, Zfj, Zfk, Zfl, Zfm, Zfn, Zfo, Zfp, Zfq, Zfr, loopB, loopsIn, List.getD_cons_zero, List.getD_cons_succ, Zfs, Zft, Zfu, Zfv, Zfw, Zfx, Zfy, Zfz, Zga, Zgb, Zgc, Zgd, Zge, Zgf, Zgg, Zgh, Zgi, Zgj, Zgk, Zgl, Zgm, Nat.reduceSub, Nat.reducePow, Nat.reduceDiv, Nat.reduceMod, end0s, end1s, endS0s, endS1s, Zgn, zero_60, cv_5_3, fo_60_0, sz_3, sz_60, agg_60, agg_3, fo_60_1, fo_58_0, sz_55, keep_38, E_masks, masks, E_rows, Tryz.f38, rep16, hz16, hc1, w0, hc37, storeE, frzL_bytes, frz_pre, e1, hk, hk1]
        obtain ⟨ds', q', g1, g2⟩ := fz_rd (l := [Row.row 21 0 [.agg [.v (.int .i64 (c.toNat : Int)), .agg [.agg [.v (.bool false), .agg (ofBytes (List.replicate 16 0)), .v (.int .i64 0)], .v (.int .i64 0), .v (.int .u32 0)]]] ⟨true, 60⟩]) (r := .tup [Inc.av ⟨(c.toNat : Int), bare zeroPre⟩, .v (.int .i64 4)]) (r' := .tup [Inc.av ⟨(c.toNat : Int), bare zeroPre⟩, .v (.int .i64 4)]) hD1 hr
        exact ⟨ds', q', congrArg some g1, g2⟩
    · rw [if_neg hk] at hone
      have hk1 : ¬ (c.toNat : Int) < 1 := by omega
      have hk2 : ¬ 3 < (c.toNat : Int) := by omega
      obtain ⟨d2, q2, hc2, hd2⟩ := c77 (n + 1) (h.set id (rdr r1) ++ [Row.row 21 0 [.agg [.v (.int .i64 (c.toNat : Int)), .agg [.agg [.v (.bool false), .agg (ofBytes (List.replicate 16 0)), .v (.int .i64 0)], .v (.int .i64 0), .v (.int .u32 0)]]] ⟨true, 60⟩]) id r1 hr1
      simp only [Nat.add_assoc, Nat.reduceAdd] at hc2
      rw [set_app hlt1, List.set_set] at hc2
      have hpok := pre_ok r1
      generalize r1.pre = pp at *
      obtain ⟨p, e, r2⟩ := pp
      simp only at hc2 hd2 hone hpok
      have hpl : AM.leafs p.av = 18 := Pre.leafs hpok
      have hpt : isTupA p.av = false := rfl
      have hpi : idfree p.av = true := by simp [Pre.av, idfree, idfreeL, Zfu]
      have hD2 := hD1.merge hd2 hlt
      have hi1 : Inc.ok ⟨(c.toNat : Int), bare p⟩ := ⟨by unfold i64; show _ ≤ (c.toNat : Int) ∧ (c.toNat : Int) ≤ _; omega, bare_ok hpok⟩
      by_cases he : e = 0
      · subst he
        rw [if_neg (by simp)] at hone
        by_cases h3 : (c.toNat : Int) = 3
        · have e3 : ((c.toNat : Int) == 3) = true := by simp [h3]
          rw [if_pos h3] at hone
          rw [hone]
          rw [call_at (E := E) (f := 38) (fn := Tryz.f38) rfl Tryz.func38 rfl (Nat.le_of_ble_eq_true rfl)]
          simp -implicitDefEqProofs only [Zaa, Zab, Zac, Zad, Zae, Zaf, Zag, Zah, Zai, Zaj, Zak, Zal, Zam, Zan, Zao, Zap, Zaq, Zar, Zas, Zat, Zau, Zav, Zaw, Zax, Zay, Zaz, Zba, Zbb, Zbc, Zbd, Zbe, Zbf, Zbg, Zbh, Zbi, Zbj, Zbk, Zbl, Zbm, Zbn, Zbo, Zbp, Zbq, Zbr, Zbs, Zbt, Zbu, Zbv, Zbw, Zbx, Zby, Zbz, Zca, Zcb, Zcc, Zcd, Zce, Zcf, Zcg, Zch, Zci, Zcj, Zck, Zcl, Zcm, Zcn, Zco, Zcp, exL, Zcq, Zcr, nlC, Zcs, Zct, Zcu, Zcv, Zcw, Zcx, Zcy, Zcz, Zda, Zdb, Zdc, Zdd, Zde, Zdf, Zdg, Zdh, Zdi, Zdj, Zdk, Zdl, Zdm, Zdn, Zdo, Zdp, Zdq, Zdr, Zds, Zdt, Zdu, Zdv, Zdw, Zdx, Zdy, Zdz, Zea, Zeb, Zec, Zed, Zee, Zef, Zeg, Zeh, Zei, Zej, end0, end1, endS0, endS1, args0, oneOrTup, cond_true, cond_false, ite_true, ite_false, bleE, bltE, beqE, decide_true, decide_false, Bool.not_false, Bool.not_true, Bool.and_true, Bool.true_and, Bool.and_false, Bool.false_and, Nat.reduceAdd, Nat.reduceLT, Nat.reduceEqDiff, Nat.reduceLeDiff, Nat.reduceMul, leafsL, idfree, idfreeL, loadE, Zek, Zel, partE, fieldAddrE, nav, navL, List.nil_append, List.cons_append, List.append_assoc, List.getElem?_cons_zero, List.getElem?_cons_succ, List.length_cons, List.length_nil, beq_self_eq_true, Bool.true_beq, Bool.false_beq, Zem, Zen, Zeo, Zep, Zeq, frz, frzL, List.getElem?_toArray, Option.bind_some, Int.cast_ofNat_Int, Int.reduceBEq, Int.reduceBNe, Int.reduceLT, Int.reduceLE, Int.reduceAdd, Int.reduceSub, Int.reduceMul, Int.reduceNeg, Zer, Zes, Zet, Zeu, Zev, Zew, Zex, Zey, Zez, Zfa, Zfb, Zfc, Zfd, List.isEmpty_nil, List.isEmpty_cons, Zfe, Zff, Zfg, Zfh, vInt, Option.getD_some, Option.getD_none, List.set_cons_zero, List.set_cons_succ, put, putL, setParts, List.length_append, List.length_set, Zfi, Zfj, Zfk, Zfl, Zfm, Zfn, Zfo, Zfp, Zfq, Zfr, loopB, loopsIn, List.getD_cons_zero, List.getD_cons_succ, Zfs, Zft, Zfu, Zfv, Zfw, Zfx, Zfy, Zfz, Zga, Zgb, Zgc, Zgd, Zge, Zgf, Zgg, Zgh, Zgi, Zgj, Zgk, Zgl, Zgm, Nat.reduceSub, Nat.reducePow, Nat.reduceDiv, Nat.reduceMod, end0s, end1s, endS0s, endS1s, Zgn, zero_60, cv_5_3, fo_60_0, sz_3, sz_60, agg_60, agg_3, fo_60_1, fo_58_0, sz_55, keep_38, E_masks, masks, E_rows, Tryz.f38, rep16, hz16, hc1, w0, hc37, storeE, frzL_bytes, frz_pre, e1, hk1, hk2, hc2, hpl, hpt, hpi, e3]
          obtain ⟨ds', q', g1, g2⟩ := fz_rd (l := [Row.row 21 0 [.agg [.v (.int .i64 (c.toNat : Int)), .agg [p.av, .v (.int .i64 0), .v (.int .u32 0)]]] ⟨true, 60⟩]) (r := .tup [Inc.av ⟨(c.toNat : Int), bare p⟩, .v (.int .i64 0)]) (r' := .tup [Inc.av ⟨(c.toNat : Int), bare p⟩, .v (.int .i64 0)]) hD2 hr
          exact ⟨ds', q', congrArg some g1, g2⟩
        · have e3 : ((c.toNat : Int) == 3) = false := by simp [h3]
          rw [if_neg h3] at hone
          have hr2 : (h.set id (rdr r2) ++ [Row.row 21 0 [.agg [.v (.int .i64 (c.toNat : Int)), .agg [p.av, .v (.int .i64 0), .v (.int .u32 0)]]] ⟨true, 60⟩])[id]? = some (rdr r2) := by rw [app_get (by simpa using hlt), set_get hlt]
          obtain ⟨d3, q3, hc3, hd3⟩ := c78 n (h.set id (rdr r2) ++ [Row.row 21 0 [.agg [.v (.int .i64 (c.toNat : Int)), .agg [p.av, .v (.int .i64 0), .v (.int .u32 0)]]] ⟨true, 60⟩]) id h.length r2 ⟨(c.toNat : Int), bare p⟩ hi1 hr2 (by rw [end0s]; rfl) (by omega)
          rw [set_app (by simpa using hlt), List.set_set] at hc3
          have hD3 := hD2.merge2 hd3 hlt (Nat.le_refl _)
          generalize r2.numbers = nn at *
          obtain ⟨e4, r3, o⟩ := nn
          simp only at hc3 hd3 hone hD3
          cases o with
          | none =>
            simp only at hc3 hone
            rw [hone]
            rw [call_at (E := E) (f := 38) (fn := Tryz.f38) rfl Tryz.func38 rfl (Nat.le_of_ble_eq_true rfl)]
            simp -implicitDefEqProofs only [Zaa, Zab, Zac, Zad, Zae, Zaf, Zag, Zah, Zai, Zaj, Zak, Zal, Zam, Zan, Zao, Zap, Zaq, Zar, Zas, Zat, Zau, Zav, Zaw, Zax, Zay, Zaz, Zba, Zbb, Zbc, Zbd, Zbe, Zbf, Zbg, Zbh, Zbi, Zbj, Zbk, Zbl, Zbm, Zbn, Zbo, Zbp, Zbq, Zbr, Zbs, Zbt, Zbu, Zbv, Zbw, Zbx, Zby, Zbz, Zca, Zcb, Zcc, Zcd, Zce, Zcf, Zcg, Zch, Zci, Zcj, Zck, Zcl, Zcm, Zcn, Zco, Zcp, exL, Zcq, Zcr, nlC, Zcs, Zct, Zcu, Zcv, Zcw, Zcx, Zcy, Zcz, Zda, Zdb, Zdc, Zdd, Zde, Zdf, Zdg, Zdh, Zdi, Zdj, Zdk, Zdl, Zdm, Zdn, Zdo, Zdp, Zdq, Zdr, Zds, Zdt, Zdu, Zdv, Zdw, Zdx, Zdy, Zdz, Zea, Zeb, Zec, Zed, Zee, Zef, Zeg, Zeh, Zei, Zej, end0, end1, endS0, endS1, args0, oneOrTup, cond_true, cond_false, ite_true, ite_false, bleE, bltE, beqE, decide_true, decide_false, Bool.not_false, Bool.not_true, Bool.and_true, Bool.true_and, Bool.and_false, Bool.false_and, Nat.reduceAdd, Nat.reduceLT, Nat.reduceEqDiff, Nat.reduceLeDiff, Nat.reduceMul, leafsL, idfree, idfreeL, loadE, Zek, Zel, partE, fieldAddrE, nav, navL, List.nil_append, List.cons_append, List.append_assoc, List.getElem?_cons_zero, List.getElem?_cons_succ, List.length_cons, List.length_nil, beq_self_eq_true, Bool.true_beq, Bool.false_beq, Zem, Zen, Zeo, Zep, Zeq, frz, frzL, List.getElem?_toArray, Option.bind_some, Int.cast_ofNat_Int, Int.reduceBEq, Int.reduceBNe, Int.reduceLT, Int.reduceLE, Int.reduceAdd, Int.reduceSub, Int.reduceMul, Int.reduceNeg, Zer, Zes, Zet, Zeu, Zev, Zew, Zex, Zey, Zez, Zfa, Zfb, Zfc, Zfd, List.isEmpty_nil, List.isEmpty_cons, Zfe, Zff, Zfg, Zfh, vInt, Option.getD_some, Option.getD_none, List.set_cons_zero, List.set_cons_succ, put, putL, setParts, List.length_append, List.length_set, Zfi, Zfj, Zfk, Zfl, Zfm, Zfn, Zfo, Zfp, Zfq, Zfr, loopB, loopsIn, List.getD_cons_zero, List.getD_cons_succ, Zfs, Zft, Zfu, Zfv, Zfw, Zfx, Zfy, Zfz, Zga, Zgb, Zgc, Zgd, Zge, Zgf, Zgg, Zgh, Zgi, Zgj, Zgk, Zgl, Zgm, Nat.reduceSub, Nat.reducePow, Nat.reduceDiv, Nat.reduceMod, end0s, end1s, endS0s, endS1s, Zgn, zero_60, cv_5_3, fo_60_0, sz_3, sz_60, agg_60, agg_3, fo_60_1, fo_58_0, sz_55, keep_38, E_masks, masks, E_rows, Tryz.f38, rep16, hz16, hc1, w0, hc37, storeE, frzL_bytes, frz_pre, e1, hk1, hk2, hc2, hpl, hpt, hpi, e3, hc3]
            obtain ⟨ds', q', g1, g2⟩ := fz_rd (l := [Row.row 21 0 [.agg [.v (.int .i64 (c.toNat : Int)), .agg [p.av, .v (.int .i64 0), .v (.int .u32 0)]]] ⟨true, 60⟩]) (r := .tup [Inc.av ⟨(c.toNat : Int), bare p⟩, .v (.int .i64 e4)]) (r' := .tup [Inc.av ⟨(c.toNat : Int), bare p⟩, .v (.int .i64 e4)]) hD3 hr
            exact ⟨ds', q', congrArg some g1, g2⟩
          | some mq =>
            simp only at hc3 hone
            rw [endS0s] at hc3
            simp only [List.set_cons_zero, incRow, withNums, Inc.av, Route.av, bare] at hc3
            rw [hone]
            rw [call_at (E := E) (f := 38) (fn := Tryz.f38) rfl Tryz.func38 rfl (Nat.le_of_ble_eq_true rfl)]
            simp -implicitDefEqProofs only [Zaa, Zab, Zac, Zad, Zae, Zaf, Zag, Zah, Zai, Zaj, Zak, Zal, Zam, Zan, Zao, Zap, Zaq, Zar, Zas, Zat, Zau, Zav, Zaw, Zax, Zay, Zaz, Zba, Zbb, Zbc, Zbd, Zbe, Zbf, Zbg, Zbh, Zbi, Zbj, Zbk, Zbl, Zbm, Zbn, Zbo, Zbp, Zbq, Zbr, Zbs, Zbt, Zbu, Zbv, Zbw, Zbx, Zby, Zbz, Zca, Zcb, Zcc, Zcd, Zce, Zcf, Zcg, Zch, Zci, Zcj, Zck, Zcl, Zcm, Zcn, Zco, Zcp, exL, Zcq, Zcr, nlC, Zcs, Zct, Zcu, Zcv, Zcw, Zcx, Zcy, Zcz, Zda, Zdb, Zdc, Zdd, Zde, Zdf, Zdg, Zdh, Zdi, Zdj, Zdk, Zdl, Zdm, Zdn, Zdo, Zdp, Zdq, Zdr, Zds, Zdt, Zdu, Zdv, Zdw, Zdx, Zdy, Zdz, Zea, Zeb, Zec, Zed, Zee, Zef, Zeg, Zeh, Zei, Zej, end0, end1, endS0, endS1, args0, oneOrTup, cond_true, cond_false, ite_true, ite_false, bleE, bltE, beqE, decide_true, decide_false, Bool.not_false, Bool.not_true, Bool.and_true, Bool.true_and, Bool.and_false, Bool.false_and, Nat.reduceAdd, Nat.reduceLT, Nat.reduceEqDiff, Nat.reduceLeDiff, Nat.reduceMul, leafsL, idfree, idfreeL, loadE, Zek, Zel, partE, fieldAddrE, nav, navL, List.nil_append, List.cons_append, List.append_assoc, List.getElem?_cons_zero, List.getElem?_cons_succ, List.length_cons, List.length_nil, beq_self_eq_true, Bool.true_beq, Bool.false_beq, Zem, Zen, Zeo, Zep, Zeq, frz, frzL, List.getElem?_toArray, Option.bind_some, Int.cast_ofNat_Int, Int.reduceBEq, Int.reduceBNe, Int.reduceLT, Int.reduceLE, Int.reduceAdd, Int.reduceSub, Int.reduceMul, Int.reduceNeg, Zer, Zes, Zet, Zeu, Zev, Zew, Zex, Zey, Zez, Zfa, Zfb, Zfc, Zfd, List.isEmpty_nil, List.isEmpty_cons, Zfe, Zff, Zfg, Zfh, vInt, Option.getD_some, Option.getD_none, List.set_cons_zero, List.set_cons_succ, put, putL, setParts, List.length_append, List.length_set, Zfi, Zfj, Zfk, Zfl, Zfm, Zfn, Zfo, Zfp, Zfq, Zfr, loopB, loopsIn, List.getD_cons_zero, List.getD_cons_succ, Zfs, Zft, Zfu, Zfv, Zfw, Zfx, Zfy, Zfz, Zga, Zgb, Zgc, Zgd, Zge, Zgf, Zgg, Zgh, Zgi, Zgj, Zgk, Zgl, Zgm, Nat.reduceSub, Nat.reducePow, Nat.reduceDiv, Nat.reduceMod, end0s, end1s, endS0s, endS1s, Zgn, zero_60, cv_5_3, fo_60_0, sz_3, sz_60, agg_60, agg_3, fo_60_1, fo_58_0, sz_55, keep_38, E_masks, masks, E_rows, Tryz.f38, rep16, hz16, hc1, w0, hc37, storeE, frzL_bytes, frz_pre, e1, hk1, hk2, hc2, hpl, hpt, hpi, e3, hc3]
            obtain ⟨ds', q', g1, g2⟩ := fz_rd (l := [incRow (withNums ⟨(c.toNat : Int), bare p⟩ mq)]) (r := .tup [Inc.av (withNums ⟨(c.toNat : Int), bare p⟩ mq), .v (.int .i64 e4)]) (r' := .tup [Inc.av (withNums ⟨(c.toNat : Int), bare p⟩ mq), .v (.int .i64 e4)]) hD3 hr
            exact ⟨ds', q', congrArg some g1, g2⟩
      · have e2 : (e != 0) = true := by simp [he]
        rw [if_pos he] at hone
        rw [hone]
        rw [call_at (E := E) (f := 38) (fn := Tryz.f38) rfl Tryz.func38 rfl (Nat.le_of_ble_eq_true rfl)]
        simp -implicitDefEqProofs only [Zaa, Zab, Zac, Zad, Zae, Zaf, Zag, Zah, Zai, Zaj, Zak, Zal, Zam, Zan, Zao, Zap, Zaq, Zar, Zas, Zat, Zau, Zav, Zaw, Zax, Zay, Zaz, Zba, Zbb, Zbc, Zbd, Zbe, Zbf, Zbg, Zbh, Zbi, Zbj, Zbk, Zbl, Zbm, Zbn, Zbo, Zbp, Zbq, Zbr, Zbs, Zbt, Zbu, Zbv, Zbw, Zbx, Zby, Zbz, Zca, Zcb, Zcc, Zcd, Zce, Zcf, Zcg, Zch, Zci, Zcj, Zck, Zcl, Zcm, Zcn, Zco, Zcp, exL, Zcq, Zcr, nlC, Zcs, Zct, Zcu, Zcv, Zcw, Zcx, Zcy, Zcz, Zda, Zdb, Zdc, Zdd, Zde, Zdf, Zdg, Zdh, Zdi, Zdj, Zdk, Zdl, Zdm, Zdn, Zdo, Zdp, Zdq, Zdr, Zds, Zdt, Zdu, Zdv, Zdw, Zdx, Zdy, Zdz, Zea, Zeb, Zec, Zed, Zee, Zef, Zeg, Zeh, Zei, Zej, end0, end1, endS0, endS1, args0, oneOrTup, cond_true, cond_false, ite_true, ite_false, bleE, bltE, beqE, decide_true, decide_false, Bool.not_false, Bool.not_true, Bool.and_true, Bool.true_and, Bool.and_false, Bool.false_and, Nat.reduceAdd, Nat.reduceLT, Nat.reduceEqDiff, Nat.reduceLeDiff, Nat.reduceMul, leafsL, idfree, idfreeL, loadE, Zek, Zel, partE, fieldAddrE, nav, navL, List.nil_append, List.cons_append, List.append_assoc, List.getElem?_cons_zero, List.getElem?_cons_succ, List.length_cons, List.length_nil, beq_self_eq_true, Bool.true_beq, Bool.false_beq, Zem, Zen, Zeo, Zep, Zeq, frz, frzL, List.getElem?_toArray, Option.bind_some, Int.cast_ofNat_Int, Int.reduceBEq, Int.reduceBNe, Int.reduceLT, Int.reduceLE, Int.reduceAdd, Int.reduceSub, Int.reduceMul, Int.reduceNeg, Zer, Zes, Zet, Zeu, Zev, Zew, Zex, Zey, Zez, Zfa, Zfb, Zfc, Zfd, List.isEmpty_nil, List.isEmpty_cons, Zfe, Zff, Zfg, Zfh, vInt, Option.getD_some, Option.getD_none, List.set_cons_zero, List.set_cons_succ, put, putL, setParts, List.length_append, List.length_set, Zfi, Zfj, Zfk, Zfl, Zfm, Zfn, Zfo, Zfp, Zfq, Zfr, loopB, loopsIn, List.getD_cons_zero, List.getD_cons_succ, Zfs, Zft, Zfu, Zfv, Zfw, Zfx, Zfy, Zfz, Zga, Zgb, Zgc, Zgd, Zge, Zgf, Zgg, Zgh, Zgi, Zgj, Zgk, Zgl, Zgm, Nat.reduceSub, Nat.reducePow, Nat.reduceDiv, Nat.reduceMod, end0s, end1s, endS0s, endS1s, Zgn, zero_60, cv_5_3, fo_60_0, sz_3, sz_60, agg_60, agg_3, fo_60_1, fo_58_0, sz_55, keep_38, E_masks, masks, E_rows, Tryz.f38, rep16, hz16, hc1, w0, hc37, storeE, frzL_bytes, frz_pre, e1, hk1, hk2, hc2, hpl, hpt, hpi, e2]
        obtain ⟨ds', q', g1, g2⟩ := fz_rd (l := [Row.row 21 0 [.agg [.v (.int .i64 (c.toNat : Int)), .agg [p.av, .v (.int .i64 0), .v (.int .u32 0)]]] ⟨true, 60⟩]) (r := .tup [Inc.av ⟨(c.toNat : Int), bare p⟩, .v (.int .i64 e)]) (r' := .tup [Inc.av ⟨(c.toNat : Int), bare p⟩, .v (.int .i64 e)]) hD2 hr
        exact ⟨ds', q', congrArg some g1, g2⟩
  · have e1 : (r1.e != 0) = true := by simp [he1]
    rw [if_pos he1] at hone
    rw [hone]
    rw [call_at (E := E) (f := 38) (fn := Tryz.f38) rfl Tryz.func38 rfl (Nat.le_of_ble_eq_true rfl)]
    simp -implicitDefEqProofs only [Zaa, Zab, Zac, Zad, Zae, Zaf, Zag, Zah, Zai, Zaj, Zak, Zal, Zam, Zan, Zao, Zap, Zaq, Zar, Zas, Zat, Zau, Zav, Zaw, Zax, Zay, Zaz, Zba, Zbb, Zbc, Zbd, Zbe, Zbf, Zbg, Zbh, Zbi, Zbj, Zbk, Zbl, Zbm, Zbn, Zbo, Zbp, Zbq, Zbr, Zbs, Zbt, Zbu, Zbv, Zbw, Zbx, Zby, Zbz, Zca, Zcb, Zcc, Zcd, Zce, Zcf, Zcg, Zch, Zci, Zcj, Zck, Zcl, Zcm, Zcn, Zco, Zcp, exL, Zcq, Zcr, nlC, Zcs, Zct, Zcu, Zcv, Zcw, Zcx, Zcy, Zcz, Zda, Zdb, Zdc, Zdd, Zde, Zdf, Zdg, Zdh, Zdi, Zdj, Zdk, Zdl, Zdm, Zdn, Zdo, Zdp, Zdq, Zdr, Zds, Zdt, Zdu, Zdv, Zdw, Zdx, Zdy, Zdz, Zea, Zeb, Zec, Zed, Zee, Zef, Zeg, Zeh, Zei, Zej, end0, end1, endS0, endS1, args0, oneOrTup, cond_true, cond_false, ite_true, ite_false, bleE, bltE, beqE, decide_true, decide_false, Bool.not_false, Bool.not_true, Bool.and_true, Bool.true_and, Bool.and_false, Bool.false_and, Nat.reduceAdd, Nat.reduceLT, Nat.reduceEqDiff, Nat.reduceLeDiff, Nat.reduceMul, leafsL, idfree, idfreeL, loadE, Zek, Zel, partE, fieldAddrE, nav, navL, List.nil_append, List.cons_append, List.append_assoc, List.getElem?_cons_zero, List.getElem?_cons_succ, List.length_cons, List.length_nil, beq_self_eq_true, Bool.true_beq, Bool.false_beq, Zem, Zen, Zeo, Zep, Zeq, frz, frzL, List.getElem?_toArray, Option.bind_some, Int.cast_ofNat_Int, Int.reduceBEq, Int.reduceBNe, Int.reduceLT, Int.reduceLE, Int.reduceAdd, Int.reduceSub, Int.reduceMul, Int.reduceNeg, Zer, Zes, Zet, Zeu, Zev, Zew, Zex, Zey, Zez, Zfa, Zfb, Zfc, Zfd, List.isEmpty_nil, List.isEmpty_cons, Zfe, Zff, Zfg, Zfh, vInt, Option.getD_some, Option.getD_none, List.set_cons_zero, List.set_cons_succ, put, putL, setParts, List.length_append, List.length_set, Zfi, Zfj, Zfk, Zfl, Zfm, Zfn, Zfo, Zfp, Zfq, Zfr, loopB, loopsIn, List.getD_cons_zero, List.getD_cons_succ, Zfs, Zft, Zfu, Zfv, Zfw, Zfx, Zfy, Zfz, Zga, Zgb, Zgc, Zgd, Zge, Zgf, Zgg, Zgh, Zgi, Zgj, Zgk, Zgl, Zgm, Nat.reduceSub, Nat.reducePow, Nat.reduceDiv, Nat.reduceMod, end0s, end1s, endS0s, endS1s, Zgn, zero_60, cv_5_3, fo_60_0, sz_3, sz_60, agg_60, agg_3, fo_60_1, fo_58_0, sz_55, keep_38, E_masks, masks, E_rows, Tryz.f38, rep16, hz16, hc1, w0, hc37, storeE, frzL_bytes, frz_pre, e1]
    obtain ⟨ds', q', g1, g2⟩ := fz_rd (l := [Row.row 21 0 [.agg [.v (.int .i64 (c.toNat : Int)), .agg [.agg [.v (.bool false), .agg (ofBytes (List.replicate 16 0)), .v (.int .i64 0)], .v (.int .i64 0), .v (.int .u32 0)]]] ⟨true, 60⟩]) (r := .tup [Inc.av ⟨(c.toNat : Int), bare zeroPre⟩, .v (.int .i64 r1.e)]) (r' := .tup [Inc.av ⟨(c.toNat : Int), bare zeroPre⟩, .v (.int .i64 r1.e)]) hD1 hr
    exact ⟨ds', q', congrArg some g1, g2⟩

end Go.Proofs.YtobdjegooonklaaGreat

set_option linter.unusedSimpArgs false
set_option linter.unusedVariables false
namespace Go.Proofs.YtobdjegooonklaaGreat
open Go Go.AM

def Rd.many : Nat → Rd → List Inc × Int × Rd
  | 0, r => ([], 0, r)
  | k + 1, r => if r.one.2.1 ≠ 0 then ([], r.one.2.1, r.one.2.2) else if (Rd.many k r.one.2.2).2.1 ≠ 0 then ([], (Rd.many k r.one.2.2).2.1, (Rd.many k r.one.2.2).2.2) else (r.one.1 :: (Rd.many k r.one.2.2).1, 0, (Rd.many k r.one.2.2).2.2)
/-- What incr.Read answers. -/
def readS (s : List UInt8) : List Inc × Int :=
  let u := (Rd.mk s 0).uint
  if u.2.e ≠ 0 then ([], u.2.e) else if 200 < u.1 then ([], 7) else
  let m := u.2.many u.1
  if m.2.1 ≠ 0 then ([], m.2.1) else if m.2.2.done ≠ 0 then ([], m.2.2.done) else (m.1, 0)

theorem one_ok (r : Rd) : r.one.1.ok := by
  have hcl := r.byte.1.toNat_lt
  have hz : zeroPre.ok := ⟨rfl, by unfold i64 zeroPre; simp⟩
  have hk : i64 (r.byte.1.toNat : Int) := by unfold i64; omega
  have hp := pre_ok r.byte.2
  have b0 : Inc.ok ⟨(r.byte.1.toNat : Int), bare zeroPre⟩ := ⟨hk, bare_ok hz⟩
  have b1 : Inc.ok ⟨(r.byte.1.toNat : Int), bare r.byte.2.pre.1⟩ := ⟨hk, bare_ok hp⟩
  unfold Rd.one
  dsimp only
  split
  · exact b0
  · split
    · exact b0
    · split
      · exact b1
      · split
        · exact b1
        · split
          · exact b1
          · rename_i mq hmq
            have hb : mq.1 < 65535 ∧ mq.2 < 4294967296 := by
              unfold Rd.numbers at hmq
              dsimp only at hmq
              split at hmq
              · cases hmq
              · split at hmq
                · cases hmq
                · split at hmq
                  · cases hmq
                  · split at hmq
                    · cases hmq
                    · injection hmq with hmq
                      subst hmq
                      exact ⟨by simp only; omega, by simp only; omega⟩
            refine ⟨hk, hp, ?_, ?_, ?_⟩
            · show i64 (mq.1 : Int); unfold i64; omega
            · show (0 : Int) ≤ (mq.2 : Int); omega
            · show (mq.2 : Int) ≤ 4294967295; omega

theorem idf_inc (i : Inc) : idfree i.av = true := by simp [Inc.av, Route.av, Pre.av, idfree, idfreeL, Zfu]
theorem idf_incs : ∀ l : List Inc, idfreeL (l.map Inc.av) = true
  | [] => rfl
  | i :: l => by simp [idfreeL, idf_inc i, idf_incs l]

theorem c35 (n : Nat) (h : Heap) (s : List UInt8) : call E (n + 500) 35 [.v (.string (strB s))] h = some (rp h.length, h ++ [rdr ⟨s, 0⟩], ⟨[], [], false⟩) := by
  rw [call_at (E := E) (f := 35) (fn := Tryz.f35) rfl Tryz.func35 rfl (Nat.le_of_ble_eq_true rfl)]
  simp -implicitDefEqProofs only [Zaa, Zab, Zac, Zad, Zae, Zaf, Zag, Zah, Zai, Zaj, Zak, Zal, Zam, Zan, Zao, Zap, Zaq, Zar, Zas, Zat, Zau, Zav, Zaw, Zax, Zay, Zaz, Zba, Zbb, Zbc, Zbd, Zbe, Zbf, Zbg, Zbh, Zbi, Zbj, Zbk, Zbl, Zbm, Zbn, Zbo, Zbp, Zbq, Zbr, Zbs, Zbt, Zbu, Zbv, Zbw, Zbx, Zby, Zbz, Zca, Zcb, Zcc, Zcd, Zce, Zcf, Zcg, Zch, Zci, Zcj, Zck, Zcl, Zcm, Zcn, Zco, Zcp, exL, Zcq, Zcr, nlC, Zcs, Zct, Zcu, Zcv, Zcw, Zcx, Zcy, Zcz, Zda, Zdb, Zdc, Zdd, Zde, Zdf, Zdg, Zdh, Zdi, Zdj, Zdk, Zdl, Zdm, Zdn, Zdo, Zdp, Zdq, Zdr, Zds, Zdt, Zdu, Zdv, Zdw, Zdx, Zdy, Zdz, Zea, Zeb, Zec, Zed, Zee, Zef, Zeg, Zeh, Zei, Zej, end0, end1, endS0, endS1, args0, oneOrTup, cond_true, cond_false, ite_true, ite_false, bleE, bltE, beqE, decide_true, decide_false, Bool.not_false, Bool.not_true, Bool.and_true, Bool.true_and, Bool.and_false, Bool.false_and, Nat.reduceAdd, Nat.reduceLT, Nat.reduceEqDiff, Nat.reduceLeDiff, Nat.reduceMul, leafsL, idfree, idfreeL, loadE, Zek, Zel, partE, fieldAddrE, nav, navL, List.nil_append, List.cons_append, List.append_assoc, List.getElem?_cons_zero, List.getElem?_cons_succ, List.length_cons, List.length_nil, beq_self_eq_true, Bool.true_beq, Bool.false_beq, Zem, Zen, Zeo, Zep, Zeq, frz, frzL, List.getElem?_toArray, Option.bind_some, Int.cast_ofNat_Int, Int.reduceBEq, Int.reduceBNe, Int.reduceLT, Int.reduceLE, Int.reduceAdd, Int.reduceSub, Int.reduceMul, Int.reduceNeg, Zer, Zes, Zet, Zeu, Zev, Zew, Zex, Zey, Zez, Zfa, Zfb, Zfc, Zfd, List.isEmpty_nil, List.isEmpty_cons, Zfe, Zff, Zfg, Zfh, vInt, Option.getD_some, Option.getD_none, List.set_cons_zero, List.set_cons_succ, put, putL, setParts, List.length_append, List.length_set, Zfi, Zfj, Zfk, Zfl, Zfm, Zfn, Zfo, Zfp, Zfq, Zfr, loopB, loopsIn, List.getD_cons_zero, List.getD_cons_succ, Zfs, Zft, Zfu, Zfv, Zfw, Zfx, Zfy, Zfz, Zga, Zgb, Zgc, Zgd, Zge, Zgf, Zgg, Zgh, Zgi, Zgj, Zgk, Zgl, Zgm, Nat.reduceSub, Nat.reducePow, Nat.reduceDiv, Nat.reduceMod, end0s, end1s, endS0s, endS1s, Zgn, bd_132, keep_35, E_masks, masks, E_rows, Tryz.f35, rdr]

/-- The list that comes. -/
def LstV (n0 : Nat) (H : Heap) (x : AV) (ys : List AV) : Prop := (x = nilS ∧ ys = []) ∨ (∃ id g, x = .sl id g 0 ys.length ∧ H[id]? = some (.row 21 g ys ⟨false, 60⟩) ∧ n0 < id ∧ ys ≠ [])

theorem round13 (n : Nat) (h H : Heap) (R : Rd) (x : AV) (l : List Inc) (k m : Nat) (hR : H[h.length]? = some (rdr R)) (hx : LstV h.length H x (l.map Inc.av)) (hk : k < m) (hm : m ≤ 200) (hl : l.length ≤ 200) :
    (R.one.2.1 ≠ 0 → ∃ fr H', exec E (call E (n + 505)) (n + 505) 13 45 h.length (loopB Tryz.f13 0) ⟨[(2, x), (4, rp h.length), (23, .v (.int .u64 m)), (24, .v (.int .u64 k))], H, [], []⟩ = some (.ret, ⟨fr, H', [], []⟩) ∧ AM.get fr 2 = some nilS ∧ AM.get fr 3 = some (.v (.int .i64 R.one.2.1))) ∧
    (R.one.2.1 = 0 → ∃ fr H' x', exec E (call E (n + 505)) (n + 505) 13 45 h.length (loopB Tryz.f13 0) ⟨[(2, x), (4, rp h.length), (23, .v (.int .u64 m)), (24, .v (.int .u64 k))], H, [], []⟩ = some (.normal, ⟨fr, H', [], []⟩) ∧
      keepF (masks 13) fr = [(2, x'), (4, rp h.length), (23, .v (.int .u64 m)), (24, .v (.int .u64 ((k + 1 : Nat) : Int)))] ∧ H'[h.length]? = some (rdr R.one.2.2) ∧ LstV h.length H' x' ((l ++ [R.one.1]).map Inc.av)) := by
  have hlt : h.length < H.length := (List.getElem?_eq_some_iff.1 hR).1
  obtain ⟨d1, q1, hc, hd⟩ := c38 n H h.length R hR
  have hok := one_ok R
  generalize R.one = oo at *
  obtain ⟨i, e, R1⟩ := oo
  simp only at hc hd hok ⊢
  have hkm : (k : Int) < m := by omega
  have hD : mergeLt h.length d1 [] = [] := mergeLt_ge fun j hj => by rw [hd.1 j hj]; exact Nat.le_refl _
  have hil : AM.leafs i.av = 21 := Inc.leafs hok
  have hia : isAggA i.av = true := rfl
  have hit : isTupA i.av = false := rfl
  have hii := idf_inc i
  have hz16 : leafsL (ofBytes (List.replicate 16 (0 : UInt8))) = 16 := by rw [leafs_ofBytes]; rfl
  have w1 : IntKind.u64.wrap ((k : Int) + 1) = ((k + 1 : Nat) : Int) := by rw [wrap_u64 (by omega) (by omega)]; omega
  have hnl : ¬ H.length < h.length := by omega
  have hfr : ∀ n0 h, frz n0 h i.av = some i.av := fun n0 h => frz_inc i
  refine ⟨fun he => ?_, fun he => ?_⟩
  · have e1 : (e != 0) = true := by simp [he]
    rw [exec_code]
    simp -implicitDefEqProofs only [Zaa, Zab, Zac, Zad, Zae, Zaf, Zag, Zah, Zai, Zaj, Zak, Zal, Zam, Zan, Zao, Zap, Zaq, Zar, Zas, Zat, Zau, Zav, Zaw, Zax, Zay, Zaz, Zba, Zbb, Zbc, Zbd, Zbe, Zbf, Zbg, Zbh, Zbi, Zbj, Zbk, Zbl, Zbm, Zbn, Zbo, Zbp, Zbq, Zbr, Zbs, Zbt, Zbu, Zbv, Zbw, Zbx, Zby, Zbz, Zca, Zcb, Zcc, Zcd, Zce, Zcf, Zcg, Zch, Zci, Zcj, Zck, Zcl, Zcm, Zcn, Zco, Zcp, exL, Zcq, Zcr, nlC, Zcs, Zct, Zcu, Zcv, Zcw, Zcx, Zcy, Zcz, Zda, Zdb, Zdc, Zdd, Zde, Zdf, Zdg, Zdh, Zdi, Zdj, Zdk, Zdl, Zdm, Zdn, Zdo, Zdp, Zdq, Zdr, Zds, Zdt, Zdu, Zdv, Zdw, Zdx, Zdy, Zdz, Zea, Zeb, Zec, Zed, Zee, Zef, Zeg, Zeh, Zei, Zej, end0, end1, endS0, endS1, args0, oneOrTup, cond_true, cond_false, ite_true, ite_false, bleE, bltE, beqE, decide_true, decide_false, Bool.not_false, Bool.not_true, Bool.and_true, Bool.true_and, Bool.and_false, Bool.false_and, Nat.reduceAdd, Nat.reduceLT, Nat.reduceEqDiff, Nat.reduceLeDiff, Nat.reduceMul, leafsL, idfree, idfreeL, loadE, Zek, Zel, partE, fieldAddrE, nav, navL, List.nil_append, List.cons_append, List.append_assoc, List.getElem?_cons_zero, List.getElem?_cons_succ, List.length_cons, List.length_nil, beq_self_eq_true, Bool.true_beq, Bool.false_beq, Zem, Zen, Zeo, Zep, Zeq, frz, frzL, List.getElem?_toArray, Option.bind_some, Int.cast_ofNat_Int, Int.reduceBEq, Int.reduceBNe, Int.reduceLT, Int.reduceLE, Int.reduceAdd, Int.reduceSub, Int.reduceMul, Int.reduceNeg, Zer, Zes, Zet, Zeu, Zev, Zew, Zex, Zey, Zez, Zfa, Zfb, Zfc, Zfd, List.isEmpty_nil, List.isEmpty_cons, Zfe, Zff, Zfg, Zfh, vInt, Option.getD_some, Option.getD_none, List.set_cons_zero, List.set_cons_succ, put, putL, setParts, List.length_append, List.length_set, Zfi, Zfj, Zfk, Zfl, Zfm, Zfn, Zfo, Zfp, Zfq, Zfr, loopB, loopsIn, List.getD_cons_zero, List.getD_cons_succ, Zfs, Zft, Zfu, Zfv, Zfw, Zfx, Zfy, Zfz, Zga, Zgb, Zgc, Zgd, Zge, Zgf, Zgg, Zgh, Zgi, Zgj, Zgk, Zgl, Zgm, Nat.reduceSub, Nat.reducePow, Nat.reduceDiv, Nat.reduceMod, end0s, end1s, endS0s, endS1s, Zgn, zero_60, sz_60, agg_60, bs_22_1, ap_22_22, src_22, keep_13, E_masks, masks, E_rows, Tryz.f13, hkm, hc, hD, rep16, hz16, hil, hia, hit, hii, storeE, hnl, e1]
    exact ⟨_, _, rfl, rfl, rfl⟩
  · subst he
    have e1 : ((0 : Int) != 0) = false := rfl
    have hb1 : ((l.map Inc.av).length + 1) * 56 ≤ 140737488355328 := by simp; omega
    have hRs : (H.set h.length (rdr R1))[h.length]? = some (rdr R1) := set_get hlt
    have hll2 : ∀ j, j < H.length → j < (H.set h.length (rdr R1)).length := fun j hj => by simpa using hj
    rcases hx with ⟨rfl, hnil⟩ | ⟨lid, g, rfl, hrow, hgt, hne⟩
    · have hl0 : l = [] := by simpa using hnil
      subst hl0
      rw [exec_code]
      simp -implicitDefEqProofs only [Zaa, Zab, Zac, Zad, Zae, Zaf, Zag, Zah, Zai, Zaj, Zak, Zal, Zam, Zan, Zao, Zap, Zaq, Zar, Zas, Zat, Zau, Zav, Zaw, Zax, Zay, Zaz, Zba, Zbb, Zbc, Zbd, Zbe, Zbf, Zbg, Zbh, Zbi, Zbj, Zbk, Zbl, Zbm, Zbn, Zbo, Zbp, Zbq, Zbr, Zbs, Zbt, Zbu, Zbv, Zbw, Zbx, Zby, Zbz, Zca, Zcb, Zcc, Zcd, Zce, Zcf, Zcg, Zch, Zci, Zcj, Zck, Zcl, Zcm, Zcn, Zco, Zcp, exL, Zcq, Zcr, nlC, Zcs, Zct, Zcu, Zcv, Zcw, Zcx, Zcy, Zcz, Zda, Zdb, Zdc, Zdd, Zde, Zdf, Zdg, Zdh, Zdi, Zdj, Zdk, Zdl, Zdm, Zdn, Zdo, Zdp, Zdq, Zdr, Zds, Zdt, Zdu, Zdv, Zdw, Zdx, Zdy, Zdz, Zea, Zeb, Zec, Zed, Zee, Zef, Zeg, Zeh, Zei, Zej, end0, end1, endS0, endS1, args0, oneOrTup, cond_true, cond_false, ite_true, ite_false, bleE, bltE, beqE, decide_true, decide_false, Bool.not_false, Bool.not_true, Bool.and_true, Bool.true_and, Bool.and_false, Bool.false_and, Nat.reduceAdd, Nat.reduceLT, Nat.reduceEqDiff, Nat.reduceLeDiff, Nat.reduceMul, leafsL, idfree, idfreeL, loadE, Zek, Zel, partE, fieldAddrE, nav, navL, List.nil_append, List.cons_append, List.append_assoc, List.getElem?_cons_zero, List.getElem?_cons_succ, List.length_cons, List.length_nil, beq_self_eq_true, Bool.true_beq, Bool.false_beq, Zem, Zen, Zeo, Zep, Zeq, frz, frzL, List.getElem?_toArray, Option.bind_some, Int.cast_ofNat_Int, Int.reduceBEq, Int.reduceBNe, Int.reduceLT, Int.reduceLE, Int.reduceAdd, Int.reduceSub, Int.reduceMul, Int.reduceNeg, Zer, Zes, Zet, Zeu, Zev, Zew, Zex, Zey, Zez, Zfa, Zfb, Zfc, Zfd, List.isEmpty_nil, List.isEmpty_cons, Zfe, Zff, Zfg, Zfh, vInt, Option.getD_some, Option.getD_none, List.set_cons_zero, List.set_cons_succ, put, putL, setParts, List.length_append, List.length_set, Zfi, Zfj, Zfk, Zfl, Zfm, Zfn, Zfo, Zfp, Zfq, Zfr, loopB, loopsIn, List.getD_cons_zero, List.getD_cons_succ, Zfs, Zft, Zfu, Zfv, Zfw, Zfx, Zfy, Zfz, Zga, Zgb, Zgc, Zgd, Zge, Zgf, Zgg, Zgh, Zgi, Zgj, Zgk, Zgl, Zgm, Nat.reduceSub, Nat.reducePow, Nat.reduceDiv, Nat.reduceMod, end0s, end1s, endS0s, endS1s, Zgn, zero_60, sz_60, agg_60, bs_22_1, ap_22_22, src_22, keep_13, E_masks, masks, E_rows, Tryz.f13, hkm, hc, hD, rep16, hz16, hil, hia, hit, hii, storeE, hnl, e1, w1]
      refine ⟨_, _, _, rfl, rfl, ?_, .inr ⟨H.length + 1, 0, rfl, ?_, by omega, by simp⟩⟩
      · rw [app_get (by simpa using hlt)]; exact hRs
      · rw [end1s]; rfl
    · have hlid : lid < H.length := (List.getElem?_eq_some_iff.1 hrow).1
      have hrow2 : (H.set h.length (rdr R1) ++ [Row.row 21 0 [i.av] ⟨true, 60⟩])[lid]? = some (.row 21 g (l.map Inc.av) ⟨false, 60⟩) := by
        rw [app_get (hll2 _ hlid), List.getElem?_set_ne (by omega)]; exact hrow
      have hap := app_new (h := H.set h.length (rdr R1) ++ [Row.row 21 0 [i.av] ⟨true, 60⟩]) (len := (l.map Inc.av).length) (e := 60) (xs := [i.av]) hrow2 rfl rfl (by simp)
      have hll : ¬ lid < h.length := by omega
      rw [exec_code]
      simp -implicitDefEqProofs only [Zaa, Zab, Zac, Zad, Zae, Zaf, Zag, Zah, Zai, Zaj, Zak, Zal, Zam, Zan, Zao, Zap, Zaq, Zar, Zas, Zat, Zau, Zav, Zaw, Zax, Zay, Zaz, Zba, Zbb, Zbc, Zbd, Zbe, Zbf, Zbg, Zbh, Zbi, Zbj, Zbk, Zbl, Zbm, Zbn, Zbo, Zbp, Zbq, Zbr, Zbs, Zbt, Zbu, Zbv, Zbw, Zbx, Zby, Zbz, Zca, Zcb, Zcc, Zcd, Zce, Zcf, Zcg, Zch, Zci, Zcj, Zck, Zcl, Zcm, Zcn, Zco, Zcp, exL, Zcq, Zcr, nlC, Zcs, Zct, Zcu, Zcv, Zcw, Zcx, Zcy, Zcz, Zda, Zdb, Zdc, Zdd, Zde, Zdf, Zdg, Zdh, Zdi, Zdj, Zdk, Zdl, Zdm, Zdn, Zdo, Zdp, Zdq, Zdr, Zds, Zdt, Zdu, Zdv, Zdw, Zdx, Zdy, Zdz, Zea, Zeb, Zec, Zed, Zee, Zef, Zeg, Zeh, Zei, Zej, end0, end1, endS0, endS1, args0, oneOrTup, cond_true, cond_false, ite_true, ite_false, bleE, bltE, beqE, decide_true, decide_false, Bool.not_false, Bool.not_true, Bool.and_true, Bool.true_and, Bool.and_false, Bool.false_and, Nat.reduceAdd, Nat.reduceLT, Nat.reduceEqDiff, Nat.reduceLeDiff, Nat.reduceMul, leafsL, idfree, idfreeL, loadE, Zek, Zel, partE, fieldAddrE, nav, navL, List.nil_append, List.cons_append, List.append_assoc, List.getElem?_cons_zero, List.getElem?_cons_succ, List.length_cons, List.length_nil, beq_self_eq_true, Bool.true_beq, Bool.false_beq, Zem, Zen, Zeo, Zep, Zeq, frz, frzL, List.getElem?_toArray, Option.bind_some, Int.cast_ofNat_Int, Int.reduceBEq, Int.reduceBNe, Int.reduceLT, Int.reduceLE, Int.reduceAdd, Int.reduceSub, Int.reduceMul, Int.reduceNeg, Zer, Zes, Zet, Zeu, Zev, Zew, Zex, Zey, Zez, Zfa, Zfb, Zfc, Zfd, List.isEmpty_nil, List.isEmpty_cons, Zfe, Zff, Zfg, Zfh, vInt, Option.getD_some, Option.getD_none, List.set_cons_zero, List.set_cons_succ, put, putL, setParts, List.length_append, List.length_set, Zfi, Zfj, Zfk, Zfl, Zfm, Zfn, Zfo, Zfp, Zfq, Zfr, loopB, loopsIn, List.getD_cons_zero, List.getD_cons_succ, Zfs, Zft, Zfu, Zfv, Zfw, Zfx, Zfy, Zfz, Zga, Zgb, Zgc, Zgd, Zge, Zgf, Zgg, Zgh, Zgi, Zgj, Zgk, Zgl, Zgm, Nat.reduceSub, Nat.reducePow, Nat.reduceDiv, Nat.reduceMod, end0s, end1s, endS0s, endS1s, Zgn, zero_60, sz_60, agg_60, bs_22_1, ap_22_22, src_22, keep_13, E_masks, masks, E_rows, Tryz.f13, hkm, hc, hD, rep16, hz16, hil, hia, hit, hii, storeE, hnl, e1, w1, hb1, hap, hll]
      refine ⟨_, _, _, rfl, rfl, ?_, .inr ⟨lid, g + 1, by simp, ?_, hgt, by simp⟩⟩
      · rw [List.getElem?_set_ne (by omega), app_get (hll2 _ hlt)]; exact hRs
      · rw [set_get (by simp; omega)]; simp

theorem many_len : ∀ (k : Nat) (r : Rd), (Rd.many k r).1.length ≤ k
  | 0, r => by simp [Rd.many]
  | k + 1, r => by
    unfold Rd.many
    split
    · simp
    · split
      · simp
      · have := many_len k r.one.2.2
        simp; omega
theorem many_ok : ∀ (k : Nat) (r : Rd), ∀ i ∈ (Rd.many k r).1, i.ok
  | 0, r, i, hi => by simp [Rd.many] at hi
  | k + 1, r, i, hi => by
    unfold Rd.many at hi
    split at hi
    · simp at hi
    · split at hi
      · simp at hi
      · rcases List.mem_cons.1 hi with rfl | hi
        · exact one_ok r
        · exact many_ok k r.one.2.2 i hi

theorem loop13 (n : Nat) (h : Heap) (m : Nat) (hm : m ≤ 200) : ∀ (k' k j : Nat) (fr : FR) (H : Heap) (R : Rd) (x : AV) (l : List Inc), k + k' = m → k' < j → H[h.length]? = some (rdr R) → LstV h.length H x (l.map Inc.av) → l.length + k' ≤ 200 → keepF (masks 13) fr = [(2, x), (4, rp h.length), (23, .v (.int .u64 m)), (24, .v (.int .u64 k))] →
    ((Rd.many k' R).2.1 ≠ 0 → ∃ fr' H', loopN (exec E (call E (n + 505)) (n + 505) 13 45 h.length (loopB Tryz.f13 0)) (masks 13) j ⟨fr, H, [], []⟩ = some (.ret, ⟨fr', H', [], []⟩) ∧ AM.get fr' 2 = some nilS ∧ AM.get fr' 3 = some (.v (.int .i64 (Rd.many k' R).2.1))) ∧
    ((Rd.many k' R).2.1 = 0 → ∃ fr' H' x', loopN (exec E (call E (n + 505)) (n + 505) 13 45 h.length (loopB Tryz.f13 0)) (masks 13) j ⟨fr, H, [], []⟩ = some (.exit 1, ⟨fr', H', [], []⟩) ∧ AM.get fr' 2 = some x' ∧ AM.get fr' 4 = some (rp h.length) ∧ H'[h.length]? = some (rdr (Rd.many k' R).2.2) ∧ LstV h.length H' x' ((l ++ (Rd.many k' R).1).map Inc.av)) := by
  intro k'
  induction k' with
  | zero =>
    intro k j fr H R x l hk hj hR hx hl hfr
    obtain ⟨j, rfl⟩ : ∃ i, j = i + 1 := ⟨j - 1, by omega⟩
    have hi : ¬ ((k : Int) < m) := by omega
    have he : ∃ fr', exec E (call E (n + 505)) (n + 505) 13 45 h.length (loopB Tryz.f13 0) ⟨keepF (masks 13) fr, H, [], []⟩ = some (.exit 1, ⟨fr', H, [], []⟩) ∧ AM.get fr' 2 = some x ∧ AM.get fr' 4 = some (rp h.length) := by
      rw [hfr, exec_code]
      simp -implicitDefEqProofs only [Zaa, Zab, Zac, Zad, Zae, Zaf, Zag, Zah, Zai, Zaj, Zak, Zal, Zam, Zan, Zao, Zap, Zaq, Zar, Zas, Zat, Zau, Zav, Zaw, Zax, Zay, Zaz, Zba, Zbb, Zbc, Zbd, Zbe, Zbf, Zbg, Zbh, Zbi, Zbj, Zbk, Zbl, Zbm, Zbn, Zbo, Zbp, Zbq, Zbr, Zbs, Zbt, Zbu, Zbv, Zbw, Zbx, Zby, Zbz, Zca, Zcb, Zcc, Zcd, Zce, Zcf, Zcg, Zch, Zci, Zcj, Zck, Zcl, Zcm, Zcn, Zco, Zcp, exL, Zcq, Zcr, nlC, Zcs, Zct, Zcu, Zcv, Zcw, Zcx, Zcy, Zcz, Zda, Zdb, Zdc, Zdd, Zde, Zdf, Zdg, Zdh, Zdi, Zdj, Zdk, Zdl, Zdm, Zdn, Zdo, Zdp, Zdq, Zdr, Zds, Zdt, Zdu, Zdv, Zdw, Zdx, Zdy, Zdz, Zea, Zeb, Zec, Zed, Zee, Zef, Zeg, Zeh, Zei, Zej, end0, end1, endS0, endS1, args0, oneOrTup, cond_true, cond_false, ite_true, ite_false, bleE, bltE, beqE, decide_true, decide_false, Bool.not_false, Bool.not_true, Bool.and_true, Bool.true_and, Bool.and_false, Bool.false_and, Nat.reduceAdd, Nat.reduceLT, Nat.reduceEqDiff, Nat.reduceLeDiff, Nat.reduceMul, leafsL, idfree, idfreeL, loadE, Zek, Zel, partE, fieldAddrE, nav, navL, List.nil_append, List.cons_append, List.append_assoc, List.getElem?_cons_zero, List.getElem?_cons_succ, List.length_cons, List.length_nil, beq_self_eq_true, Bool.true_beq, Bool.false_beq, Zem, Zen, Zeo, Zep, Zeq, frz, frzL, List.getElem?_toArray, Option.bind_some, Int.cast_ofNat_Int, Int.reduceBEq, Int.reduceBNe, Int.reduceLT, Int.reduceLE, Int.reduceAdd, Int.reduceSub, Int.reduceMul, Int.reduceNeg, Zer, Zes, Zet, Zeu, Zev, Zew, Zex, Zey, Zez, Zfa, Zfb, Zfc, Zfd, List.isEmpty_nil, List.isEmpty_cons, Zfe, Zff, Zfg, Zfh, vInt, Option.getD_some, Option.getD_none, List.set_cons_zero, List.set_cons_succ, put, putL, setParts, List.length_append, List.length_set, Zfi, Zfj, Zfk, Zfl, Zfm, Zfn, Zfo, Zfp, Zfq, Zfr, loopB, loopsIn, List.getD_cons_zero, List.getD_cons_succ, Zfs, Zft, Zfu, Zfv, Zfw, Zfx, Zfy, Zfz, Zga, Zgb, Zgc, Zgd, Zge, Zgf, Zgg, Zgh, Zgi, Zgj, Zgk, Zgl, Zgm, Nat.reduceSub, Nat.reducePow, Nat.reduceDiv, Nat.reduceMod, end0s, end1s, endS0s, endS1s, Zgn, zero_60, sz_60, agg_60, bs_22_1, ap_22_22, src_22, keep_13, E_masks, masks, E_rows, Tryz.f13, hi]
      exact ⟨_, rfl, rfl, rfl⟩
    obtain ⟨fr', he, h2, h4⟩ := he
    exact ⟨fun hne => (hne rfl).elim, fun _ => ⟨fr', H, x, loopN_out he, h2, h4, hR, by simpa [Rd.many] using hx⟩⟩
  | succ k' ih =>
    intro k j fr H R x l hk hj hR hx hl hfr
    obtain ⟨j, rfl⟩ : ∃ i, j = i + 1 := ⟨j - 1, by omega⟩
    obtain ⟨ra, rb⟩ := round13 n h H R x l k m hR hx (by omega) hm (by omega)
    by_cases he : R.one.2.1 = 0
    · obtain ⟨fr1, H1, x1, g1, g2, g3, g4⟩ := rb he
      obtain ⟨ia, ib⟩ := ih (k + 1) j fr1 H1 R.one.2.2 x1 (l ++ [R.one.1]) (by omega) (by omega) g3 g4 (by simp; omega) g2
      have hstep := loopN_step (n := j) (l := masks 13) (fr := fr) (by rw [hfr]; exact g1)
      have hmany : Rd.many (k' + 1) R = if (Rd.many k' R.one.2.2).2.1 ≠ 0 then ([], (Rd.many k' R.one.2.2).2.1, (Rd.many k' R.one.2.2).2.2) else (R.one.1 :: (Rd.many k' R.one.2.2).1, 0, (Rd.many k' R.one.2.2).2.2) := by
        rw [Rd.many, if_neg (by simp [he])]
      rw [hstep, hmany]
      by_cases h2 : (Rd.many k' R.one.2.2).2.1 = 0
      · rw [if_neg (by simp [h2])]
        refine ⟨fun hne => (hne rfl).elim, fun _ => ?_⟩
        obtain ⟨fr', H', x', q1, q2, q3, q4, q5⟩ := ib h2
        exact ⟨fr', H', x', q1, q2, q3, q4, by simpa using q5⟩
      · rw [if_pos h2]
        refine ⟨fun _ => ia h2, fun hz => (h2 hz).elim⟩
    · obtain ⟨fr', H', g1, g2, g3⟩ := ra he
      have hmany : Rd.many (k' + 1) R = ([], R.one.2.1, R.one.2.2) := by rw [Rd.many, if_pos he]
      rw [hmany]
      refine ⟨fun _ => ⟨fr', H', loopN_ret (by rw [hfr]; exact g1), g2, g3⟩, fun hz => (he hz).elim⟩

/-- A list of changes as what a function gives back. -/
def incsV (l : List Inc) : AV := if l = [] then nilS else .lit 21 false (l.map Inc.av)

theorem LstV.frz {n0 : Nat} {H : Heap} {x : AV} {l : List Inc} (hx : LstV n0 H x (l.map Inc.av)) : AM.frz n0 H x = some (incsV l) := by
  rcases hx with ⟨rfl, hnil⟩ | ⟨id, g, rfl, hr, hgt, hne⟩
  · have : l = [] := by simpa using hnil
    subst this
    rfl
  · have hn : l ≠ [] := fun h => hne (by rw [h]; rfl)
    have hb : Nat.blt id n0 = false := by rw [bltE]; exact decide_eq_false (by omega)
    have h2 : (l.map Inc.av).length = l.length := by simp
    unfold incsV
    rw [if_neg hn]
    simp [AM.frz, hb, elsOf, hr, bleE, List.take_of_length_le, idf_incs]

theorem c13 (n : Nat) (h : Heap) (s : List UInt8) : call E (n + 506) 13 [.v (.string (strB s))] h = some (.tup [incsV (readS s).1, .v (.int .i64 (readS s).2)], h, ⟨[], [], true⟩) := by
  have hR0 : (h ++ [rdr ⟨s, 0⟩])[h.length]? = some (rdr ⟨s, 0⟩) := by rw [end0]; rfl
  obtain ⟨d1, q1, hc1, hd1⟩ := c36 (n + 2) (h ++ [rdr ⟨s, 0⟩]) h.length ⟨s, 0⟩ hR0
  simp only [Nat.add_assoc, Nat.reduceAdd] at hc1
  rw [endS0] at hc1
  simp only [List.set_cons_zero] at hc1
  have hD : mergeLt h.length d1 [] = [] := mergeLt_ge fun j hj => by rw [hd1.1 j hj]; exact Nat.le_refl _
  have hread : readS s = (if (Rd.mk s 0).uint.2.e ≠ 0 then ([], (Rd.mk s 0).uint.2.e) else if 200 < (Rd.mk s 0).uint.1 then ([], 7) else
      if ((Rd.mk s 0).uint.2.many (Rd.mk s 0).uint.1).2.1 ≠ 0 then ([], ((Rd.mk s 0).uint.2.many (Rd.mk s 0).uint.1).2.1) else if ((Rd.mk s 0).uint.2.many (Rd.mk s 0).uint.1).2.2.done ≠ 0 then ([], ((Rd.mk s 0).uint.2.many (Rd.mk s 0).uint.1).2.2.done) else (((Rd.mk s 0).uint.2.many (Rd.mk s 0).uint.1).1, 0)) := rfl
  generalize (Rd.mk s 0).uint = uu at *
  obtain ⟨m, r1⟩ := uu
  simp only at hc1 hd1 hread
  have hR1 : (h ++ [rdr r1])[h.length]? = some (rdr r1) := by rw [end0]; rfl
  have hc37 := fun n => c37 n (h ++ [rdr r1]) h.length r1 hR1
  by_cases he1 : r1.e = 0
  · have e1 : (r1.e != 0) = false := by simp [he1]
    rw [if_neg (by simp [he1])] at hread
    by_cases hm : 200 < m
    · have hm' : (200 : Int) < m := by omega
      rw [if_pos hm] at hread
      rw [hread, call_at (E := E) (f := 13) (fn := Tryz.f13) rfl Tryz.func13 rfl (Nat.le_of_ble_eq_true rfl)]
      simp -implicitDefEqProofs only [Zaa, Zab, Zac, Zad, Zae, Zaf, Zag, Zah, Zai, Zaj, Zak, Zal, Zam, Zan, Zao, Zap, Zaq, Zar, Zas, Zat, Zau, Zav, Zaw, Zax, Zay, Zaz, Zba, Zbb, Zbc, Zbd, Zbe, Zbf, Zbg, Zbh, Zbi, Zbj, Zbk, Zbl, Zbm, Zbn, Zbo, Zbp, Zbq, Zbr, Zbs, Zbt, Zbu, Zbv, Zbw, Zbx, Zby, Zbz, Zca, Zcb, Zcc, Zcd, Zce, Zcf, Zcg, Zch, Zci, Zcj, Zck, Zcl, Zcm, Zcn, Zco, Zcp, exL, Zcq, Zcr, nlC, Zcs, Zct, Zcu, Zcv, Zcw, Zcx, Zcy, Zcz, Zda, Zdb, Zdc, Zdd, Zde, Zdf, Zdg, Zdh, Zdi, Zdj, Zdk, Zdl, Zdm, Zdn, Zdo, Zdp, Zdq, Zdr, Zds, Zdt, Zdu, Zdv, Zdw, Zdx, Zdy, Zdz, Zea, Zeb, Zec, Zed, Zee, Zef, Zeg, Zeh, Zei, Zej, end0, end1, endS0, endS1, args0, oneOrTup, cond_true, cond_false, ite_true, ite_false, bleE, bltE, beqE, decide_true, decide_false, Bool.not_false, Bool.not_true, Bool.and_true, Bool.true_and, Bool.and_false, Bool.false_and, Nat.reduceAdd, Nat.reduceLT, Nat.reduceEqDiff, Nat.reduceLeDiff, Nat.reduceMul, leafsL, idfree, idfreeL, loadE, Zek, Zel, partE, fieldAddrE, nav, navL, List.nil_append, List.cons_append, List.append_assoc, List.getElem?_cons_zero, List.getElem?_cons_succ, List.length_cons, List.length_nil, beq_self_eq_true, Bool.true_beq, Bool.false_beq, Zem, Zen, Zeo, Zep, Zeq, frz, frzL, List.getElem?_toArray, Option.bind_some, Int.cast_ofNat_Int, Int.reduceBEq, Int.reduceBNe, Int.reduceLT, Int.reduceLE, Int.reduceAdd, Int.reduceSub, Int.reduceMul, Int.reduceNeg, Zer, Zes, Zet, Zeu, Zev, Zew, Zex, Zey, Zez, Zfa, Zfb, Zfc, Zfd, List.isEmpty_nil, List.isEmpty_cons, Zfe, Zff, Zfg, Zfh, vInt, Option.getD_some, Option.getD_none, List.set_cons_zero, List.set_cons_succ, put, putL, setParts, List.length_append, List.length_set, Zfi, Zfj, Zfk, Zfl, Zfm, Zfn, Zfo, Zfp, Zfq, Zfr, loopB, loopsIn, List.getD_cons_zero, List.getD_cons_succ, Zfs, Zft, Zfu, Zfv, Zfw, Zfx, Zfy, Zfz, Zga, Zgb, Zgc, Zgd, Zge, Zgf, Zgg, Zgh, Zgi, Zgj, Zgk, Zgl, Zgm, Nat.reduceSub, Nat.reducePow, Nat.reduceDiv, Nat.reduceMod, end0s, end1s, endS0s, endS1s, Zgn, zero_60, sz_60, agg_60, bs_22_1, ap_22_22, src_22, keep_13, E_masks, masks, E_rows, Tryz.f13, c35, hc1, hD, hc37, e1, hm']
      rfl
    · have hm' : ¬ (200 : Int) < m := by omega
      rw [if_neg hm] at hread
      obtain ⟨la, lb⟩ := loop13 n h m (by omega) m 0 (n + 505) [(2, nilS), (4, rp h.length), (23, .v (.int .u64 m)), (24, .v (.int .u64 0))] (h ++ [rdr r1]) r1 nilS [] (by omega) (by omega) hR1 (.inl ⟨rfl, rfl⟩) (by simp; omega) rfl
      by_cases he2 : (r1.many m).2.1 = 0
      · rw [if_neg (by simp [he2])] at hread
        obtain ⟨fr', H', x', g1, g2, g3, g4, g5⟩ := lb he2
        have hc39 := fun n => c39 n H' h.length _ g4
        simp -implicitDefEqProofs only [Zaa, Zab, Zac, Zad, Zae, Zaf, Zag, Zah, Zai, Zaj, Zak, Zal, Zam, Zan, Zao, Zap, Zaq, Zar, Zas, Zat, Zau, Zav, Zaw, Zax, Zay, Zaz, Zba, Zbb, Zbc, Zbd, Zbe, Zbf, Zbg, Zbh, Zbi, Zbj, Zbk, Zbl, Zbm, Zbn, Zbo, Zbp, Zbq, Zbr, Zbs, Zbt, Zbu, Zbv, Zbw, Zbx, Zby, Zbz, Zca, Zcb, Zcc, Zcd, Zce, Zcf, Zcg, Zch, Zci, Zcj, Zck, Zcl, Zcm, Zcn, Zco, Zcp, exL, Zcq, Zcr, nlC, Zcs, Zct, Zcu, Zcv, Zcw, Zcx, Zcy, Zcz, Zda, Zdb, Zdc, Zdd, Zde, Zdf, Zdg, Zdh, Zdi, Zdj, Zdk, Zdl, Zdm, Zdn, Zdo, Zdp, Zdq, Zdr, Zds, Zdt, Zdu, Zdv, Zdw, Zdx, Zdy, Zdz, Zea, Zeb, Zec, Zed, Zee, Zef, Zeg, Zeh, Zei, Zej, end0, end1, endS0, endS1, args0, oneOrTup, cond_true, cond_false, ite_true, ite_false, bleE, bltE, beqE, decide_true, decide_false, Bool.not_false, Bool.not_true, Bool.and_true, Bool.true_and, Bool.and_false, Bool.false_and, Nat.reduceAdd, Nat.reduceLT, Nat.reduceEqDiff, Nat.reduceLeDiff, Nat.reduceMul, leafsL, idfree, idfreeL, loadE, Zek, Zel, partE, fieldAddrE, nav, navL, List.nil_append, List.cons_append, List.append_assoc, List.getElem?_cons_zero, List.getElem?_cons_succ, List.length_cons, List.length_nil, beq_self_eq_true, Bool.true_beq, Bool.false_beq, Zem, Zen, Zeo, Zep, Zeq, frz, frzL, List.getElem?_toArray, Option.bind_some, Int.cast_ofNat_Int, Int.reduceBEq, Int.reduceBNe, Int.reduceLT, Int.reduceLE, Int.reduceAdd, Int.reduceSub, Int.reduceMul, Int.reduceNeg, Zer, Zes, Zet, Zeu, Zev, Zew, Zex, Zey, Zez, Zfa, Zfb, Zfc, Zfd, List.isEmpty_nil, List.isEmpty_cons, Zfe, Zff, Zfg, Zfh, vInt, Option.getD_some, Option.getD_none, List.set_cons_zero, List.set_cons_succ, put, putL, setParts, List.length_append, List.length_set, Zfi, Zfj, Zfk, Zfl, Zfm, Zfn, Zfo, Zfp, Zfq, Zfr, loopB, loopsIn, List.getD_cons_zero, List.getD_cons_succ, Zfs, Zft, Zfu, Zfv, Zfw, Zfx, Zfy, Zfz, Zga, Zgb, Zgc, Zgd, Zge, Zgf, Zgg, Zgh, Zgi, Zgj, Zgk, Zgl, Zgm, Nat.reduceSub, Nat.reducePow, Nat.reduceDiv, Nat.reduceMod, end0s, end1s, endS0s, endS1s, Zgn, zero_60, sz_60, agg_60, bs_22_1, ap_22_22, src_22, keep_13, E_masks, masks, E_rows, Tryz.f13] at g1
        have hfz := g5.frz
        by_cases he3 : (r1.many m).2.2.done = 0
        · have e3 : ((r1.many m).2.2.done != 0) = false := by simp [he3]
          rw [if_neg (by simp [he3])] at hread
          rw [hread, call_at (E := E) (f := 13) (fn := Tryz.f13) rfl Tryz.func13 rfl (Nat.le_of_ble_eq_true rfl)]
          simp only [List.nil_append] at hfz
          simp -implicitDefEqProofs only [Zaa, Zab, Zac, Zad, Zae, Zaf, Zag, Zah, Zai, Zaj, Zak, Zal, Zam, Zan, Zao, Zap, Zaq, Zar, Zas, Zat, Zau, Zav, Zaw, Zax, Zay, Zaz, Zba, Zbb, Zbc, Zbd, Zbe, Zbf, Zbg, Zbh, Zbi, Zbj, Zbk, Zbl, Zbm, Zbn, Zbo, Zbp, Zbq, Zbr, Zbs, Zbt, Zbu, Zbv, Zbw, Zbx, Zby, Zbz, Zca, Zcb, Zcc, Zcd, Zce, Zcf, Zcg, Zch, Zci, Zcj, Zck, Zcl, Zcm, Zcn, Zco, Zcp, exL, Zcq, Zcr, nlC, Zcs, Zct, Zcu, Zcv, Zcw, Zcx, Zcy, Zcz, Zda, Zdb, Zdc, Zdd, Zde, Zdf, Zdg, Zdh, Zdi, Zdj, Zdk, Zdl, Zdm, Zdn, Zdo, Zdp, Zdq, Zdr, Zds, Zdt, Zdu, Zdv, Zdw, Zdx, Zdy, Zdz, Zea, Zeb, Zec, Zed, Zee, Zef, Zeg, Zeh, Zei, Zej, end0, end1, endS0, endS1, args0, oneOrTup, cond_true, cond_false, ite_true, ite_false, bleE, bltE, beqE, decide_true, decide_false, Bool.not_false, Bool.not_true, Bool.and_true, Bool.true_and, Bool.and_false, Bool.false_and, Nat.reduceAdd, Nat.reduceLT, Nat.reduceEqDiff, Nat.reduceLeDiff, Nat.reduceMul, leafsL, idfree, idfreeL, loadE, Zek, Zel, partE, fieldAddrE, nav, navL, List.nil_append, List.cons_append, List.append_assoc, List.getElem?_cons_zero, List.getElem?_cons_succ, List.length_cons, List.length_nil, beq_self_eq_true, Bool.true_beq, Bool.false_beq, Zem, Zen, Zeo, Zep, Zeq, frz, frzL, List.getElem?_toArray, Option.bind_some, Int.cast_ofNat_Int, Int.reduceBEq, Int.reduceBNe, Int.reduceLT, Int.reduceLE, Int.reduceAdd, Int.reduceSub, Int.reduceMul, Int.reduceNeg, Zer, Zes, Zet, Zeu, Zev, Zew, Zex, Zey, Zez, Zfa, Zfb, Zfc, Zfd, List.isEmpty_nil, List.isEmpty_cons, Zfe, Zff, Zfg, Zfh, vInt, Option.getD_some, Option.getD_none, List.set_cons_zero, List.set_cons_succ, put, putL, setParts, List.length_append, List.length_set, Zfi, Zfj, Zfk, Zfl, Zfm, Zfn, Zfo, Zfp, Zfq, Zfr, loopB, loopsIn, List.getD_cons_zero, List.getD_cons_succ, Zfs, Zft, Zfu, Zfv, Zfw, Zfx, Zfy, Zfz, Zga, Zgb, Zgc, Zgd, Zge, Zgf, Zgg, Zgh, Zgi, Zgj, Zgk, Zgl, Zgm, Nat.reduceSub, Nat.reducePow, Nat.reduceDiv, Nat.reduceMod, end0s, end1s, endS0s, endS1s, Zgn, zero_60, sz_60, agg_60, bs_22_1, ap_22_22, src_22, keep_13, E_masks, masks, E_rows, Tryz.f13, c35, hc1, hD, hc37, e1, hm', g1, g2, g3, hc39, e3, hfz]
        · have e3 : ((r1.many m).2.2.done != 0) = true := by simp [he3]
          rw [if_pos he3] at hread
          rw [hread, call_at (E := E) (f := 13) (fn := Tryz.f13) rfl Tryz.func13 rfl (Nat.le_of_ble_eq_true rfl)]
          simp -implicitDefEqProofs only [Zaa, Zab, Zac, Zad, Zae, Zaf, Zag, Zah, Zai, Zaj, Zak, Zal, Zam, Zan, Zao, Zap, Zaq, Zar, Zas, Zat, Zau, Zav, Zaw, Zax, Zay, Zaz, Zba, Zbb, Zbc, Zbd, Zbe, Zbf, Zbg, Zbh, Zbi, Zbj, Zbk, Zbl, Zbm, Zbn, Zbo, Zbp, Zbq, Zbr, Zbs, Zbt, Zbu, Zbv, Zbw, Zbx, Zby, Zbz, Zca, Zcb, Zcc, Zcd, Zce, Zcf, Zcg, Zch, Zci, Zcj, Zck, Zcl, Zcm, Zcn, Zco, Zcp, exL, Zcq, Zcr, nlC, Zcs, Zct, Zcu, Zcv, Zcw, Zcx, Zcy, Zcz, Zda, Zdb, Zdc, Zdd, Zde, Zdf, Zdg, Zdh, Zdi, Zdj, Zdk, Zdl, Zdm, Zdn, Zdo, Zdp, Zdq, Zdr, Zds, Zdt, Zdu, Zdv, Zdw, Zdx, Zdy, Zdz, Zea, Zeb, Zec, Zed, Zee, Zef, Zeg, Zeh, Zei, Zej, end0, end1, endS0, endS1, args0, oneOrTup, cond_true, cond_false, ite_true, ite_false, bleE, bltE, beqE, decide_true, decide_false, Bool.not_false, Bool.not_true, Bool.and_true, Bool.true_and, Bool.and_false, Bool.false_and, Nat.reduceAdd, Nat.reduceLT, Nat.reduceEqDiff, Nat.reduceLeDiff, Nat.reduceMul, leafsL, idfree, idfreeL, loadE, Zek, Zel, partE, fieldAddrE, nav, navL, List.nil_append, List.cons_append, List.append_assoc, List.getElem?_cons_zero, List.getElem?_cons_succ, List.length_cons, List.length_nil, beq_self_eq_true, Bool.true_beq, Bool.false_beq, Zem, Zen, Zeo, Zep, Zeq, frz, frzL, List.getElem?_toArray, Option.bind_some, Int.cast_ofNat_Int, Int.reduceBEq, Int.reduceBNe, Int.reduceLT, Int.reduceLE, Int.reduceAdd, Int.reduceSub, Int.reduceMul, Int.reduceNeg, Zer, Zes, Zet, Zeu, Zev, Zew, Zex, Zey, Zez, Zfa, Zfb, Zfc, Zfd, List.isEmpty_nil, List.isEmpty_cons, Zfe, Zff, Zfg, Zfh, vInt, Option.getD_some, Option.getD_none, List.set_cons_zero, List.set_cons_succ, put, putL, setParts, List.length_append, List.length_set, Zfi, Zfj, Zfk, Zfl, Zfm, Zfn, Zfo, Zfp, Zfq, Zfr, loopB, loopsIn, List.getD_cons_zero, List.getD_cons_succ, Zfs, Zft, Zfu, Zfv, Zfw, Zfx, Zfy, Zfz, Zga, Zgb, Zgc, Zgd, Zge, Zgf, Zgg, Zgh, Zgi, Zgj, Zgk, Zgl, Zgm, Nat.reduceSub, Nat.reducePow, Nat.reduceDiv, Nat.reduceMod, end0s, end1s, endS0s, endS1s, Zgn, zero_60, sz_60, agg_60, bs_22_1, ap_22_22, src_22, keep_13, E_masks, masks, E_rows, Tryz.f13, c35, hc1, hD, hc37, e1, hm', g1, g2, g3, hc39, e3]
          rfl
      · rw [if_pos he2] at hread
        obtain ⟨fr', H', g1, g2, g3⟩ := la he2
        simp -implicitDefEqProofs only [Zaa, Zab, Zac, Zad, Zae, Zaf, Zag, Zah, Zai, Zaj, Zak, Zal, Zam, Zan, Zao, Zap, Zaq, Zar, Zas, Zat, Zau, Zav, Zaw, Zax, Zay, Zaz, Zba, Zbb, Zbc, Zbd, Zbe, Zbf, Zbg, Zbh, Zbi, Zbj, Zbk, Zbl, Zbm, Zbn, Zbo, Zbp, Zbq, Zbr, Zbs, Zbt, Zbu, Zbv, Zbw, Zbx, Zby, Zbz, Zca, Zcb, Zcc, Zcd, Zce, Zcf, Zcg, Zch, Zci, Zcj, Zck, Zcl, Zcm, Zcn, Zco, Zcp, exL, Zcq, Zcr, nlC, Zcs, Zct, Zcu, Zcv, Zcw, Zcx, Zcy, Zcz, Zda, Zdb, Zdc, Zdd, Zde, Zdf, Zdg, Zdh, Zdi, Zdj, Zdk, Zdl, Zdm, Zdn, Zdo, Zdp, Zdq, Zdr, Zds, Zdt, Zdu, Zdv, Zdw, Zdx, Zdy, Zdz, Zea, Zeb, Zec, Zed, Zee, Zef, Zeg, Zeh, Zei, Zej, end0, end1, endS0, endS1, args0, oneOrTup, cond_true, cond_false, ite_true, ite_false, bleE, bltE, beqE, decide_true, decide_false, Bool.not_false, Bool.not_true, Bool.and_true, Bool.true_and, Bool.and_false, Bool.false_and, Nat.reduceAdd, Nat.reduceLT, Nat.reduceEqDiff, Nat.reduceLeDiff, Nat.reduceMul, leafsL, idfree, idfreeL, loadE, Zek, Zel, partE, fieldAddrE, nav, navL, List.nil_append, List.cons_append, List.append_assoc, List.getElem?_cons_zero, List.getElem?_cons_succ, List.length_cons, List.length_nil, beq_self_eq_true, Bool.true_beq, Bool.false_beq, Zem, Zen, Zeo, Zep, Zeq, frz, frzL, List.getElem?_toArray, Option.bind_some, Int.cast_ofNat_Int, Int.reduceBEq, Int.reduceBNe, Int.reduceLT, Int.reduceLE, Int.reduceAdd, Int.reduceSub, Int.reduceMul, Int.reduceNeg, Zer, Zes, Zet, Zeu, Zev, Zew, Zex, Zey, Zez, Zfa, Zfb, Zfc, Zfd, List.isEmpty_nil, List.isEmpty_cons, Zfe, Zff, Zfg, Zfh, vInt, Option.getD_some, Option.getD_none, List.set_cons_zero, List.set_cons_succ, put, putL, setParts, List.length_append, List.length_set, Zfi, Zfj, Zfk, Zfl, Zfm, Zfn, Zfo, Zfp, Zfq, Zfr, loopB, loopsIn, List.getD_cons_zero, List.getD_cons_succ, Zfs, Zft, Zfu, Zfv, Zfw, Zfx, Zfy, Zfz, Zga, Zgb, Zgc, Zgd, Zge, Zgf, Zgg, Zgh, Zgi, Zgj, Zgk, Zgl, Zgm, Nat.reduceSub, Nat.reducePow, Nat.reduceDiv, Nat.reduceMod, end0s, end1s, endS0s, endS1s, Zgn, zero_60, sz_60, agg_60, bs_22_1, ap_22_22, src_22, keep_13, E_masks, masks, E_rows, Tryz.f13] at g1
        rw [hread, call_at (E := E) (f := 13) (fn := Tryz.f13) rfl Tryz.func13 rfl (Nat.le_of_ble_eq_true rfl)]
        simp -implicitDefEqProofs only [Zaa, Zab, Zac, Zad, Zae, Zaf, Zag, Zah, Zai, Zaj, Zak, Zal, Zam, Zan, Zao, Zap, Zaq, Zar, Zas, Zat, Zau, Zav, Zaw, Zax, Zay, Zaz, Zba, Zbb, Zbc, Zbd, Zbe, Zbf, Zbg, Zbh, Zbi, Zbj, Zbk, Zbl, Zbm, Zbn, Zbo, Zbp, Zbq, Zbr, Zbs, Zbt, Zbu, Zbv, Zbw, Zbx, Zby, Zbz, Zca, Zcb, Zcc, Zcd, Zce, Zcf, Zcg, Zch, Zci, Zcj, Zck, Zcl, Zcm, Zcn, Zco, Zcp, exL, Zcq, Zcr, nlC, Zcs, Zct, Zcu, Zcv, Zcw, Zcx, Zcy, Zcz, Zda, Zdb, Zdc, Zdd, Zde, Zdf, Zdg, Zdh, Zdi, Zdj, Zdk, Zdl, Zdm, Zdn, Zdo, Zdp, Zdq, Zdr, Zds, Zdt, Zdu, Zdv, Zdw, Zdx, Zdy, Zdz, Zea, Zeb, Zec, Zed, Zee, Zef, Zeg, Zeh, Zei, Zej, end0, end1, endS0, endS1, args0, oneOrTup, cond_true, cond_false, ite_true, ite_false, bleE, bltE, beqE, decide_true, decide_false, Bool.not_false, Bool.not_true, Bool.and_true, Bool.true_and, Bool.and_false, Bool.false_and, Nat.reduceAdd, Nat.reduceLT, Nat.reduceEqDiff, Nat.reduceLeDiff, Nat.reduceMul, leafsL, idfree, idfreeL, loadE, Zek, Zel, partE, fieldAddrE, nav, navL, List.nil_append, List.cons_append, List.append_assoc, List.getElem?_cons_zero, List.getElem?_cons_succ, List.length_cons, List.length_nil, beq_self_eq_true, Bool.true_beq, Bool.false_beq, Zem, Zen, Zeo, Zep, Zeq, frz, frzL, List.getElem?_toArray, Option.bind_some, Int.cast_ofNat_Int, Int.reduceBEq, Int.reduceBNe, Int.reduceLT, Int.reduceLE, Int.reduceAdd, Int.reduceSub, Int.reduceMul, Int.reduceNeg, Zer, Zes, Zet, Zeu, Zev, Zew, Zex, Zey, Zez, Zfa, Zfb, Zfc, Zfd, List.isEmpty_nil, List.isEmpty_cons, Zfe, Zff, Zfg, Zfh, vInt, Option.getD_some, Option.getD_none, List.set_cons_zero, List.set_cons_succ, put, putL, setParts, List.length_append, List.length_set, Zfi, Zfj, Zfk, Zfl, Zfm, Zfn, Zfo, Zfp, Zfq, Zfr, loopB, loopsIn, List.getD_cons_zero, List.getD_cons_succ, Zfs, Zft, Zfu, Zfv, Zfw, Zfx, Zfy, Zfz, Zga, Zgb, Zgc, Zgd, Zge, Zgf, Zgg, Zgh, Zgi, Zgj, Zgk, Zgl, Zgm, Nat.reduceSub, Nat.reducePow, Nat.reduceDiv, Nat.reduceMod, end0s, end1s, endS0s, endS1s, Zgn, zero_60, sz_60, agg_60, bs_22_1, ap_22_22, src_22, keep_13, E_masks, masks, E_rows, Tryz.f13, c35, hc1, hD, hc37, e1, hm', g1, g2, g3]
        rfl
  · have e1 : (r1.e != 0) = true := by simp [he1]
    rw [if_pos he1] at hread
    rw [hread, call_at (E := E) (f := 13) (fn := Tryz.f13) rfl Tryz.func13 rfl (Nat.le_of_ble_eq_true rfl)]
    simp -implicitDefEqProofs only [Zaa, Zab, Zac, Zad, Zae, Zaf, Zag, Zah, Zai, Zaj, Zak, Zal, Zam, Zan, Zao, Zap, Zaq, Zar, Zas, Zat, Zau, Zav, Zaw, Zax, Zay, Zaz, Zba, Zbb, Zbc, Zbd, Zbe, Zbf, Zbg, Zbh, Zbi, Zbj, Zbk, Zbl, Zbm, Zbn, Zbo, Zbp, Zbq, Zbr, Zbs, Zbt, Zbu, Zbv, Zbw, Zbx, Zby, Zbz, Zca, Zcb, Zcc, Zcd, Zce, Zcf, Zcg, Zch, Zci, Zcj, Zck, Zcl, Zcm, Zcn, Zco, Zcp, exL, Zcq, Zcr, nlC, Zcs, Zct, Zcu, Zcv, Zcw, Zcx, Zcy, Zcz, Zda, Zdb, Zdc, Zdd, Zde, Zdf, Zdg, Zdh, Zdi, Zdj, Zdk, Zdl, Zdm, Zdn, Zdo, Zdp, Zdq, Zdr, Zds, Zdt, Zdu, Zdv, Zdw, Zdx, Zdy, Zdz, Zea, Zeb, Zec, Zed, Zee, Zef, Zeg, Zeh, Zei, Zej, end0, end1, endS0, endS1, args0, oneOrTup, cond_true, cond_false, ite_true, ite_false, bleE, bltE, beqE, decide_true, decide_false, Bool.not_false, Bool.not_true, Bool.and_true, Bool.true_and, Bool.and_false, Bool.false_and, Nat.reduceAdd, Nat.reduceLT, Nat.reduceEqDiff, Nat.reduceLeDiff, Nat.reduceMul, leafsL, idfree, idfreeL, loadE, Zek, Zel, partE, fieldAddrE, nav, navL, List.nil_append, List.cons_append, List.append_assoc, List.getElem?_cons_zero, List.getElem?_cons_succ, List.length_cons, List.length_nil, beq_self_eq_true, Bool.true_beq, Bool.false_beq, Zem, Zen, Zeo, Zep, Zeq, frz, frzL, List.getElem?_toArray, Option.bind_some, Int.cast_ofNat_Int, Int.reduceBEq, Int.reduceBNe, Int.reduceLT, Int.reduceLE, Int.reduceAdd, Int.reduceSub, Int.reduceMul, Int.reduceNeg, Zer, Zes, Zet, Zeu, Zev, Zew, Zex, Zey, Zez, Zfa, Zfb, Zfc, Zfd, List.isEmpty_nil, List.isEmpty_cons, Zfe, Zff, Zfg, Zfh, vInt, Option.getD_some, Option.getD_none, List.set_cons_zero, List.set_cons_succ, put, putL, setParts, List.length_append, List.length_set, Zfi, Zfj, Zfk, Zfl, Zfm, Zfn, Zfo, Zfp, Zfq, Zfr, loopB, loopsIn, List.getD_cons_zero, List.getD_cons_succ, Zfs, Zft, Zfu, Zfv, Zfw, Zfx, Zfy, Zfz, Zga, Zgb, Zgc, Zgd, Zge, Zgf, Zgg, Zgh, Zgi, Zgj, Zgk, Zgl, Zgm, Nat.reduceSub, Nat.reducePow, Nat.reduceDiv, Nat.reduceMod, end0s, end1s, endS0s, endS1s, Zgn, zero_60, sz_60, agg_60, bs_22_1, ap_22_22, src_22, keep_13, E_masks, masks, E_rows, Tryz.f13, c35, hc1, hD, hc37, e1]
    rfl

end Go.Proofs.YtobdjegooonklaaGreat
