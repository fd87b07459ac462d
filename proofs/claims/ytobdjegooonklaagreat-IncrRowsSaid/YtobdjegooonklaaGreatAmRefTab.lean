/- The reference's order of prefixes. Conditions: none. -/
import Derived.Test.YtobdjegooonklaaGreatAmTab6
import Derived.Test.YtobdjegooonklaaGreatAmRefA
set_option linter.unusedSimpArgs false
set_option linter.unusedVariables false
set_option maxRecDepth 100000
set_option maxHeartbeats 1000000
namespace Go.Proofs.YtobdjegooonklaaGreat
open Go Go.AM

theorem nums_cons {l : List UInt8} {i : Nat} (h : i < l.length) : nums (l.drop i) = ((l[i]).toNat : Int) :: nums (l.drop (i + 1)) := by
  rw [List.drop_eq_getElem_cons h]
  rfl

theorem loop98 (n n0 : Nat) (h H : Heap) (p q : Pre) (ip iq : Nat) (hp : p.ok) (hq : q.ok) (rp : H[ip]? = some (.row 18 0 [p.av] ⟨true, 55⟩)) (rq : H[iq]? = some (.row 18 0 [q.av] ⟨true, 55⟩)) : ∀ (k i j : Nat) (fr : FR), i + k = 16 → k < j → keepF (masks 98) fr = [(2, .ptr ip 0 0 [] 0), (3, .ptr iq 0 0 [] 0), (5, .v (.int .i64 (i : Nat)))] →
    ∃ fr', (loopN (exec E (call E (n + 499)) (n + 499) 98 45 n0 (loopB Tryz.f98 0)) (masks 98) j ⟨fr, H, [], []⟩ = some (.exit 0, ⟨fr', H, [], []⟩) ∧ AM.get fr' 2 = some (.ptr ip 0 0 [] 0) ∧ AM.get fr' 3 = some (.ptr iq 0 0 [] 0) ∧ lexI (nums (p.ad.drop i)) (nums (q.ad.drop i)) = 0) ∨
      (loopN (exec E (call E (n + 499)) (n + 499) 98 45 n0 (loopB Tryz.f98 0)) (masks 98) j ⟨fr, H, [], []⟩ = some (.ret, ⟨fr', H, [], []⟩) ∧ AM.get fr' 4 = some (.v (.int .i64 (lexI (nums (p.ad.drop i)) (nums (q.ad.drop i))))) ∧ lexI (nums (p.ad.drop i)) (nums (q.ad.drop i)) ≠ 0) := by
  intro k
  have l1 : leafsL (ofBytes p.ad) = 16 := by rw [leafs_ofBytes]; exact hp.1
  have l2 : leafsL (ofBytes q.ad) = 16 := by rw [leafs_ofBytes]; exact hq.1
  induction k with
  | zero =>
    intro i j fr hik hj hk
    obtain ⟨j, rfl⟩ : ∃ i, j = i + 1 := ⟨j - 1, by omega⟩
    have hi : ¬ ((i : Int) < 16) := by omega
    have he : ∃ fr', exec E (call E (n + 499)) (n + 499) 98 45 n0 (loopB Tryz.f98 0) ⟨[(2, .ptr ip 0 0 [] 0), (3, .ptr iq 0 0 [] 0), (5, .v (.int .i64 (i : Nat)))], H, [], []⟩ = some (.exit 0, ⟨fr', H, [], []⟩) ∧ AM.get fr' 2 = some (.ptr ip 0 0 [] 0) ∧ AM.get fr' 3 = some (.ptr iq 0 0 [] 0) := by
      rw [exec_code]
      simp -implicitDefEqProofs only [simA, exL, nlC, newCl, args0, oneOrTup, Nat.reduceAdd, Nat.reduceLT, Nat.reduceEqDiff, Nat.reduceLeDiff, Nat.reduceMul, leafsL, idfree, idfreeL, loadE, partE, fieldAddrE, nav, navL, frz, frzL, Int.reduceBEq, Int.reduceBNe, Int.reduceLT, Int.reduceLE, Int.reduceAdd, Int.reduceSub, Int.reduceMul, Int.reduceNeg, vInt, put, putL, setParts, loopB, loopsIn, Nat.reduceSub, Nat.reducePow, Nat.reduceDiv, Nat.reduceMod, fo_55_0, sz_4, agg_4, prs_98_8, fo_55_1, und_53, sz_5, agg_5, prs_98_10, fo_55_2, sz_3, agg_3, keep_98, E_masks, masks, rows_98, Tryz.f98, hi]
      exact ⟨_, rfl, rfl, rfl⟩
    obtain ⟨fr', he, g2, g3⟩ := he
    refine ⟨fr', .inl ⟨loopN_outK hk he, g2, g3, ?_⟩⟩
    rw [List.drop_eq_nil_of_le (by rw [hp.1]; omega), List.drop_eq_nil_of_le (by rw [hq.1]; omega)]
    rfl
  | succ k ih =>
    intro i j fr hik hj hk
    obtain ⟨j, rfl⟩ : ∃ i, j = i + 1 := ⟨j - 1, by omega⟩
    have hi : ((i : Int) < 16) := by omega
    have h16 : i < 16 := by omega
    have w1 := wrapN1 (n := i) (by omega)
    have hil : i < p.ad.length := by rw [hp.1]; exact h16
    have hiq : i < q.ad.length := by rw [hq.1]; exact h16
    have n1 := navL_bytes (List.getElem?_eq_getElem hil)
    have n2 := navL_bytes (List.getElem?_eq_getElem hiq)
    have ia : ∀ (h : Heap) (id : Nat), indexAddrE E.P h 53 (.ptr id 0 0 [1] 1) (.v (.int .i64 (i : Nat))) = some (.ptr id 0 0 [1, i] (1 + i)) := fun h id => by
      have := ia_arr (P := E.P) (h := h) (t := 53) (id := id) (g := 0) (i := 0) (o := 1) (j := i) (p := [1]) und_53 sz_5 h16
      simpa using this
    have nv1 : nav p.av [1, i] (1 + i) = some (.v (.int .u8 (p.ad[i]).toNat)) := by
      simp [Pre.av, nav, navL, Zfv, bleE, n1]
    have nv2 : nav q.av [1, i] (1 + i) = some (.v (.int .u8 (q.ad[i]).toNat)) := by
      simp [Pre.av, nav, navL, Zfv, bleE, n2]
    rw [nums_cons hil, nums_cons hiq]
    by_cases h1 : ((p.ad[i]).toNat : Int) < (q.ad[i]).toNat
    · have he : ∃ fr', exec E (call E (n + 499)) (n + 499) 98 45 n0 (loopB Tryz.f98 0) ⟨[(2, .ptr ip 0 0 [] 0), (3, .ptr iq 0 0 [] 0), (5, .v (.int .i64 (i : Nat)))], H, [], []⟩ = some (.ret, ⟨fr', H, [], []⟩) ∧ AM.get fr' 4 = some (.v (.int .i64 (-1))) := by
        rw [exec_code]
        simp -implicitDefEqProofs only [simA, exL, nlC, newCl, args0, oneOrTup, Nat.reduceAdd, Nat.reduceLT, Nat.reduceEqDiff, Nat.reduceLeDiff, Nat.reduceMul, leafsL, idfree, idfreeL, loadE, partE, fieldAddrE, nav, navL, frz, frzL, Int.reduceBEq, Int.reduceBNe, Int.reduceLT, Int.reduceLE, Int.reduceAdd, Int.reduceSub, Int.reduceMul, Int.reduceNeg, vInt, put, putL, setParts, loopB, loopsIn, Nat.reduceSub, Nat.reducePow, Nat.reduceDiv, Nat.reduceMod, fo_55_0, sz_4, agg_4, prs_98_8, fo_55_1, und_53, sz_5, agg_5, prs_98_10, fo_55_2, sz_3, agg_3, keep_98, E_masks, masks, rows_98, Tryz.f98, hi, rp, rq, ia, nv1, nv2, h1, pairsOK, clsOf, compat]
        exact ⟨_, rfl, rfl⟩
      obtain ⟨fr', he, hg⟩ := he
      refine ⟨fr', .inr ⟨loopN_retK hk he, ?_, ?_⟩⟩ <;> simp [lexI, h1, hg]
    · by_cases h2 : ((q.ad[i]).toNat : Int) < (p.ad[i]).toNat
      · have he : ∃ fr', exec E (call E (n + 499)) (n + 499) 98 45 n0 (loopB Tryz.f98 0) ⟨[(2, .ptr ip 0 0 [] 0), (3, .ptr iq 0 0 [] 0), (5, .v (.int .i64 (i : Nat)))], H, [], []⟩ = some (.ret, ⟨fr', H, [], []⟩) ∧ AM.get fr' 4 = some (.v (.int .i64 1)) := by
          rw [exec_code]
          simp -implicitDefEqProofs only [simA, exL, nlC, newCl, args0, oneOrTup, Nat.reduceAdd, Nat.reduceLT, Nat.reduceEqDiff, Nat.reduceLeDiff, Nat.reduceMul, leafsL, idfree, idfreeL, loadE, partE, fieldAddrE, nav, navL, frz, frzL, Int.reduceBEq, Int.reduceBNe, Int.reduceLT, Int.reduceLE, Int.reduceAdd, Int.reduceSub, Int.reduceMul, Int.reduceNeg, vInt, put, putL, setParts, loopB, loopsIn, Nat.reduceSub, Nat.reducePow, Nat.reduceDiv, Nat.reduceMod, fo_55_0, sz_4, agg_4, prs_98_8, fo_55_1, und_53, sz_5, agg_5, prs_98_10, fo_55_2, sz_3, agg_3, keep_98, E_masks, masks, rows_98, Tryz.f98, hi, rp, rq, ia, nv1, nv2, h1, h2, pairsOK, clsOf, compat]
          exact ⟨_, rfl, rfl⟩
        obtain ⟨fr', he, hg⟩ := he
        refine ⟨fr', .inr ⟨loopN_retK hk he, ?_, ?_⟩⟩ <;> simp [lexI, h1, h2, hg]
      · have he : ∃ fr', exec E (call E (n + 499)) (n + 499) 98 45 n0 (loopB Tryz.f98 0) ⟨[(2, .ptr ip 0 0 [] 0), (3, .ptr iq 0 0 [] 0), (5, .v (.int .i64 (i : Nat)))], H, [], []⟩ = some (.normal, ⟨fr', H, [], []⟩) ∧ keepF (masks 98) fr' = [(2, .ptr ip 0 0 [] 0), (3, .ptr iq 0 0 [] 0), (5, .v (.int .i64 ((i + 1 : Nat) : Int)))] := by
          rw [exec_code]
          simp -implicitDefEqProofs only [simA, exL, nlC, newCl, args0, oneOrTup, Nat.reduceAdd, Nat.reduceLT, Nat.reduceEqDiff, Nat.reduceLeDiff, Nat.reduceMul, leafsL, idfree, idfreeL, loadE, partE, fieldAddrE, nav, navL, frz, frzL, Int.reduceBEq, Int.reduceBNe, Int.reduceLT, Int.reduceLE, Int.reduceAdd, Int.reduceSub, Int.reduceMul, Int.reduceNeg, vInt, put, putL, setParts, loopB, loopsIn, Nat.reduceSub, Nat.reducePow, Nat.reduceDiv, Nat.reduceMod, fo_55_0, sz_4, agg_4, prs_98_8, fo_55_1, und_53, sz_5, agg_5, prs_98_10, fo_55_2, sz_3, agg_3, keep_98, E_masks, masks, rows_98, Tryz.f98, hi, rp, rq, ia, nv1, nv2, h1, h2, w1, pairsOK, clsOf, compat]
          exact ⟨_, rfl, rfl⟩
        obtain ⟨fr1, he, hk1⟩ := he
        obtain ⟨fr', g⟩ := ih (i + 1) j fr1 (by omega) (by omega) hk1
        refine ⟨fr', ?_⟩
        rw [loopN_stepK hk he]
        simpa only [lexI, h1, h2, if_false] using g

theorem c98 (n : Nat) (p q : Pre) (hp : p.ok) (hq : q.ok) (h : Heap) : call E (n + 500) 98 [p.av, q.av] h = some (.v (.int .i64 (cmpP p q)), h, ⟨[], [], true⟩) := by
  have l1 : leafsL (ofBytes p.ad) = 16 := by rw [leafs_ofBytes]; exact hp.1
  have l2 : leafsL (ofBytes q.ad) = 16 := by rw [leafs_ofBytes]; exact hq.1
  have hp1 : AM.leafs p.av = 18 := Pre.leafs hp
  have hq1 : AM.leafs q.av = 18 := Pre.leafs hq
  have tp : isTupA p.av = false := rfl
  have tq : isTupA q.av = false := rfl
  have n0p : nav p.av [0] 0 = some (.v (.bool p.six)) := by simp [Pre.av, nav, navL]
  have n0q : nav q.av [0] 0 = some (.v (.bool q.six)) := by simp [Pre.av, nav, navL]
  have n2p : nav p.av [2] 17 = some (.v (.int .i64 p.len)) := by simp [Pre.av, nav, navL, Zfv, Zfw, leafs_ofBytes, hp.1, bleE]
  have n2q : nav q.av [2] 17 = some (.v (.int .i64 q.len)) := by simp [Pre.av, nav, navL, Zfv, Zfw, leafs_ofBytes, hq.1, bleE]
  have hne : ∀ (ox oy : Operand) (a b : Bool), binE E.P .neq 4 ox oy (.v (.bool a)) (.v (.bool b)) = some (.v (.bool (a != b))) := fun ox oy a b => by cases a <;> cases b <;> rfl
  cases h1 : p.six <;> cases h2 : q.six
  case false.true =>
    have hcm : cmpP p q = -1 := by simp [cmpP, or3, h1, h2, kindI, cmpI]
    rw [h1] at n0p
    rw [h2] at n0q
    rw [hcm, call_at (E := E) (f := 98) (fn := Tryz.f98) rfl Tryz.func98 rfl (Nat.le_of_ble_eq_true rfl)]
    simp -implicitDefEqProofs only [simA, exL, nlC, newCl, args0, oneOrTup, Nat.reduceAdd, Nat.reduceLT, Nat.reduceEqDiff, Nat.reduceLeDiff, Nat.reduceMul, leafsL, idfree, idfreeL, loadE, partE, fieldAddrE, nav, navL, frz, frzL, Int.reduceBEq, Int.reduceBNe, Int.reduceLT, Int.reduceLE, Int.reduceAdd, Int.reduceSub, Int.reduceMul, Int.reduceNeg, vInt, put, putL, setParts, loopB, loopsIn, Nat.reduceSub, Nat.reducePow, Nat.reduceDiv, Nat.reduceMod, fo_55_0, sz_4, agg_4, prs_98_8, fo_55_1, und_53, sz_5, agg_5, prs_98_10, fo_55_2, sz_3, agg_3, keep_98, E_masks, masks, rows_98, Tryz.f98, hp1, hq1, tp, tq, n0p, n0q, hne, Bool.bne_true, Bool.bne_false]
  case true.false =>
    have hcm : cmpP p q = 1 := by simp [cmpP, or3, h1, h2, kindI, cmpI]
    rw [h1] at n0p
    rw [h2] at n0q
    rw [hcm, call_at (E := E) (f := 98) (fn := Tryz.f98) rfl Tryz.func98 rfl (Nat.le_of_ble_eq_true rfl)]
    simp -implicitDefEqProofs only [simA, exL, nlC, newCl, args0, oneOrTup, Nat.reduceAdd, Nat.reduceLT, Nat.reduceEqDiff, Nat.reduceLeDiff, Nat.reduceMul, leafsL, idfree, idfreeL, loadE, partE, fieldAddrE, nav, navL, frz, frzL, Int.reduceBEq, Int.reduceBNe, Int.reduceLT, Int.reduceLE, Int.reduceAdd, Int.reduceSub, Int.reduceMul, Int.reduceNeg, vInt, put, putL, setParts, loopB, loopsIn, Nat.reduceSub, Nat.reducePow, Nat.reduceDiv, Nat.reduceMod, fo_55_0, sz_4, agg_4, prs_98_8, fo_55_1, und_53, sz_5, agg_5, prs_98_10, fo_55_2, sz_3, agg_3, keep_98, E_masks, masks, rows_98, Tryz.f98, hp1, hq1, tp, tq, n0p, n0q, hne, Bool.bne_true, Bool.bne_false]
  all_goals
    have hcm : cmpP p q = or3 0 (lexI (nums p.ad) (nums q.ad)) (cmpI p.len q.len) := by
      rw [← cmpB_lex _ _ (by rw [hp.1, hq.1])]
      simp [cmpP, h1, h2, cmpI]
    rw [h1] at n0p
    rw [h2] at n0q
    obtain ⟨fr', ⟨g1, g2, g3, g4⟩ | ⟨g1, g2, g3⟩⟩ := loop98 n h.length h (h ++ [.row 18 0 [p.av] ⟨true, 55⟩, .row 18 0 [q.av] ⟨true, 55⟩]) p q h.length (h.length + 1) hp hq (by rw [end0]; rfl) (by rw [end1]; rfl) 16 0 (n + 499) [(2, .ptr h.length 0 0 [] 0), (3, .ptr (h.length + 1) 0 0 [] 0), (5, .v (.int .i64 0))] rfl (by omega) rfl
    · simp -implicitDefEqProofs only [simA, exL, nlC, newCl, args0, oneOrTup, Nat.reduceAdd, Nat.reduceLT, Nat.reduceEqDiff, Nat.reduceLeDiff, Nat.reduceMul, leafsL, idfree, idfreeL, loadE, partE, fieldAddrE, nav, navL, frz, frzL, Int.reduceBEq, Int.reduceBNe, Int.reduceLT, Int.reduceLE, Int.reduceAdd, Int.reduceSub, Int.reduceMul, Int.reduceNeg, vInt, put, putL, setParts, loopB, loopsIn, Nat.reduceSub, Nat.reducePow, Nat.reduceDiv, Nat.reduceMod, fo_55_0, sz_4, agg_4, prs_98_8, fo_55_1, und_53, sz_5, agg_5, prs_98_10, fo_55_2, sz_3, agg_3, keep_98, E_masks, masks, rows_98, Tryz.f98] at g1
      simp only [List.drop_zero] at g4
      by_cases h3 : p.len < q.len
      · have : cmpP p q = -1 := by rw [hcm, g4]; simp [or3, cmpI, h3]
        rw [this, call_at (E := E) (f := 98) (fn := Tryz.f98) rfl Tryz.func98 rfl (Nat.le_of_ble_eq_true rfl)]
        simp -implicitDefEqProofs only [simA, exL, nlC, newCl, args0, oneOrTup, Nat.reduceAdd, Nat.reduceLT, Nat.reduceEqDiff, Nat.reduceLeDiff, Nat.reduceMul, leafsL, idfree, idfreeL, loadE, partE, fieldAddrE, nav, navL, frz, frzL, Int.reduceBEq, Int.reduceBNe, Int.reduceLT, Int.reduceLE, Int.reduceAdd, Int.reduceSub, Int.reduceMul, Int.reduceNeg, vInt, put, putL, setParts, loopB, loopsIn, Nat.reduceSub, Nat.reducePow, Nat.reduceDiv, Nat.reduceMod, fo_55_0, sz_4, agg_4, prs_98_8, fo_55_1, und_53, sz_5, agg_5, prs_98_10, fo_55_2, sz_3, agg_3, keep_98, E_masks, masks, rows_98, Tryz.f98, hp1, hq1, tp, tq, n0p, n0q, n2p, n2q, hne, Bool.bne_true, Bool.bne_false, g1, g2, g3, h3]
      · by_cases h4 : q.len < p.len
        · have : cmpP p q = 1 := by rw [hcm, g4]; simp [or3, cmpI, h3, h4]
          rw [this, call_at (E := E) (f := 98) (fn := Tryz.f98) rfl Tryz.func98 rfl (Nat.le_of_ble_eq_true rfl)]
          simp -implicitDefEqProofs only [simA, exL, nlC, newCl, args0, oneOrTup, Nat.reduceAdd, Nat.reduceLT, Nat.reduceEqDiff, Nat.reduceLeDiff, Nat.reduceMul, leafsL, idfree, idfreeL, loadE, partE, fieldAddrE, nav, navL, frz, frzL, Int.reduceBEq, Int.reduceBNe, Int.reduceLT, Int.reduceLE, Int.reduceAdd, Int.reduceSub, Int.reduceMul, Int.reduceNeg, vInt, put, putL, setParts, loopB, loopsIn, Nat.reduceSub, Nat.reducePow, Nat.reduceDiv, Nat.reduceMod, fo_55_0, sz_4, agg_4, prs_98_8, fo_55_1, und_53, sz_5, agg_5, prs_98_10, fo_55_2, sz_3, agg_3, keep_98, E_masks, masks, rows_98, Tryz.f98, hp1, hq1, tp, tq, n0p, n0q, n2p, n2q, hne, Bool.bne_true, Bool.bne_false, g1, g2, g3, h3, h4]
        · have : cmpP p q = 0 := by rw [hcm, g4]; simp [or3, cmpI, h3, h4]
          rw [this, call_at (E := E) (f := 98) (fn := Tryz.f98) rfl Tryz.func98 rfl (Nat.le_of_ble_eq_true rfl)]
          simp -implicitDefEqProofs only [simA, exL, nlC, newCl, args0, oneOrTup, Nat.reduceAdd, Nat.reduceLT, Nat.reduceEqDiff, Nat.reduceLeDiff, Nat.reduceMul, leafsL, idfree, idfreeL, loadE, partE, fieldAddrE, nav, navL, frz, frzL, Int.reduceBEq, Int.reduceBNe, Int.reduceLT, Int.reduceLE, Int.reduceAdd, Int.reduceSub, Int.reduceMul, Int.reduceNeg, vInt, put, putL, setParts, loopB, loopsIn, Nat.reduceSub, Nat.reducePow, Nat.reduceDiv, Nat.reduceMod, fo_55_0, sz_4, agg_4, prs_98_8, fo_55_1, und_53, sz_5, agg_5, prs_98_10, fo_55_2, sz_3, agg_3, keep_98, E_masks, masks, rows_98, Tryz.f98, hp1, hq1, tp, tq, n0p, n0q, n2p, n2q, hne, Bool.bne_true, Bool.bne_false, g1, g2, g3, h3, h4]
    · simp -implicitDefEqProofs only [simA, exL, nlC, newCl, args0, oneOrTup, Nat.reduceAdd, Nat.reduceLT, Nat.reduceEqDiff, Nat.reduceLeDiff, Nat.reduceMul, leafsL, idfree, idfreeL, loadE, partE, fieldAddrE, nav, navL, frz, frzL, Int.reduceBEq, Int.reduceBNe, Int.reduceLT, Int.reduceLE, Int.reduceAdd, Int.reduceSub, Int.reduceMul, Int.reduceNeg, vInt, put, putL, setParts, loopB, loopsIn, Nat.reduceSub, Nat.reducePow, Nat.reduceDiv, Nat.reduceMod, fo_55_0, sz_4, agg_4, prs_98_8, fo_55_1, und_53, sz_5, agg_5, prs_98_10, fo_55_2, sz_3, agg_3, keep_98, E_masks, masks, rows_98, Tryz.f98] at g1
      simp only [List.drop_zero] at g2 g3
      have : cmpP p q = lexI (nums p.ad) (nums q.ad) := by rw [hcm]; simp [or3, g3]
      rw [this, call_at (E := E) (f := 98) (fn := Tryz.f98) rfl Tryz.func98 rfl (Nat.le_of_ble_eq_true rfl)]
      simp -implicitDefEqProofs only [simA, exL, nlC, newCl, args0, oneOrTup, Nat.reduceAdd, Nat.reduceLT, Nat.reduceEqDiff, Nat.reduceLeDiff, Nat.reduceMul, leafsL, idfree, idfreeL, loadE, partE, fieldAddrE, nav, navL, frz, frzL, Int.reduceBEq, Int.reduceBNe, Int.reduceLT, Int.reduceLE, Int.reduceAdd, Int.reduceSub, Int.reduceMul, Int.reduceNeg, vInt, put, putL, setParts, loopB, loopsIn, Nat.reduceSub, Nat.reducePow, Nat.reduceDiv, Nat.reduceMod, fo_55_0, sz_4, agg_4, prs_98_8, fo_55_1, und_53, sz_5, agg_5, prs_98_10, fo_55_2, sz_3, agg_3, keep_98, E_masks, masks, rows_98, Tryz.f98, hp1, hq1, tp, tq, n0p, n0q, hne, Bool.bne_true, Bool.bne_false, g1, g2]

end Go.Proofs.YtobdjegooonklaaGreat

set_option linter.unusedSimpArgs false
set_option linter.unusedVariables false
set_option maxRecDepth 100000
set_option maxHeartbeats 1000000
namespace Go.Proofs.YtobdjegooonklaaGreat
open Go Go.AM

theorem pos_of_at {l : List Route} {p : Pre} {k : Nat} {r : Route} (hs : Sorted l) (hok : ∀ r ∈ l, r.ok) (hk : l[k]? = some r) (hp : r.to = p) : pos l p = k ∧ has l p = true := by
  subst hp
  obtain ⟨hkl, hke⟩ := List.getElem?_eq_some_iff.1 hk
  have h0 := cmpP_self r.to (hok r (List.mem_of_getElem? hk)).1.1
  have hpos : pos l r.to = k := pos_eq (by omega) (fun j hj q hq => by
    obtain ⟨h1, h2⟩ := List.getElem?_eq_some_iff.1 hq
    have := List.pairwise_iff_getElem.1 hs j k h1 hkl hj
    rw [h2, hke] at this
    exact this) (fun q hq => by
    rw [hk] at hq
    injection hq with hq
    subst hq
    unfold cmpAt
    omega)
  refine ⟨hpos, ?_⟩
  unfold has
  rw [hpos, hk]
  simp [cmpAt, h0]

theorem round60 (n n0 : Nat) (H : Heap) (x : AV) (all : List Route) (p : Pre) (bid : Nat) (hp : p.ok) (hbx : H[bid]? = some (.row 18 0 [p.av] ⟨true, 55⟩)) (hok : ∀ i ∈ all, i.ok) (s : RV H x all) (hbig : all.length < 490) (rest pre : List Route) (a : Route) (hl : pre ++ a :: rest = all) :
    ∃ fr', (a.to = p ∧ exec E (call E (n + 499)) (n + 499) 60 20 n0 (loopB Tryz.f60 0) ⟨[(0, x), (3, .ptr bid 0 0 [] 0), (5, .v (.int .i64 (pre.length : Nat)))], H, [], []⟩ = some (.ret, ⟨fr', H, [], []⟩) ∧ AM.get fr' 4 = some (.v (.int .i64 (pre.length : Nat)))) ∨
      (a.to ≠ p ∧ exec E (call E (n + 499)) (n + 499) 60 20 n0 (loopB Tryz.f60 0) ⟨[(0, x), (3, .ptr bid 0 0 [] 0), (5, .v (.int .i64 (pre.length : Nat)))], H, [], []⟩ = some (.normal, ⟨fr', H, [], []⟩) ∧ keepF (masks 60) fr' = [(0, x), (3, .ptr bid 0 0 [] 0), (5, .v (.int .i64 ((pre.length + 1 : Nat) : Int)))]) := by
  have hi : ((pre.length : Int) < all.length) := by rw [← hl]; simp; omega
  have hlen := s.len
  have ha0 : a.ok := hok a (by rw [← hl]; simp)
  have ga : all[pre.length]? = some a := by rw [← hl]; simp
  have hpl : pre.length < 490 := by rw [← hl] at hbig; simp at hbig; omega
  have w2 := wrapN1 (n := pre.length) (by omega)
  have la : AM.leafs a.to.av = 18 := Pre.leafs ha0.1
  have lp : AM.leafs p.av = 18 := Pre.leafs hp
  have ia : isAggA a.to.av = true := rfl
  have ip : isAggA p.av = true := rfl
  have heq := fun ox oy => eq55 (ox := ox) (oy := oy) ha0.1 hp
  rcases s with ⟨rfl, rfl⟩ | ⟨b', rfl⟩ | ⟨id, g, els, ex, rfl, hr, ht⟩
  · simp at hl
  · have ha1 := lit_at (h := H) (b := b') ga
    by_cases hab : a.to = p
    · have hd : decide (a.to = p) = true := decide_eq_true hab
      simp only [hab, ne_eq, not_true_eq_false, false_and, or_false, true_and]
      rw [exec_code]
      simp -implicitDefEqProofs only [simA, exL, nlC, newCl, args0, oneOrTup, Nat.reduceAdd, Nat.reduceLT, Nat.reduceEqDiff, Nat.reduceLeDiff, Nat.reduceMul, leafsL, idfree, idfreeL, loadE, partE, fieldAddrE, nav, navL, frz, frzL, Int.reduceBEq, Int.reduceBNe, Int.reduceLT, Int.reduceLE, Int.reduceAdd, Int.reduceSub, Int.reduceMul, Int.reduceNeg, vInt, put, putL, setParts, loopB, loopsIn, Nat.reduceSub, Nat.reducePow, Nat.reduceDiv, Nat.reduceMod, ln_36, prs_60_4, und_36, sz_58, fo_58_0, sz_55, agg_55, keep_60, E_masks, masks, rows_60, Tryz.f60, hi, hlen, w2, ha1, hbx, la, lp, ia, ip, heq, hd, route_nav, Route.av, pairsOK, clsOf, compat]
      exact ⟨_, rfl, rfl⟩
    · have hd : decide (a.to = p) = false := decide_eq_false hab
      simp only [hab, ne_eq, not_false_eq_true, false_and, false_or, true_and]
      rw [exec_code]
      simp -implicitDefEqProofs only [simA, exL, nlC, newCl, args0, oneOrTup, Nat.reduceAdd, Nat.reduceLT, Nat.reduceEqDiff, Nat.reduceLeDiff, Nat.reduceMul, leafsL, idfree, idfreeL, loadE, partE, fieldAddrE, nav, navL, frz, frzL, Int.reduceBEq, Int.reduceBNe, Int.reduceLT, Int.reduceLE, Int.reduceAdd, Int.reduceSub, Int.reduceMul, Int.reduceNeg, vInt, put, putL, setParts, loopB, loopsIn, Nat.reduceSub, Nat.reducePow, Nat.reduceDiv, Nat.reduceMod, ln_36, prs_60_4, und_36, sz_58, fo_58_0, sz_55, agg_55, keep_60, E_masks, masks, rows_60, Tryz.f60, hi, hlen, w2, ha1, hbx, la, lp, ia, ip, heq, hd, route_nav, Route.av, pairsOK, clsOf, compat]
      exact ⟨_, rfl, rfl⟩
  · obtain ⟨ha1, ha2⟩ := sl_at hr ht ga
    by_cases hab : a.to = p
    · have hd : decide (a.to = p) = true := decide_eq_true hab
      simp only [hab, ne_eq, not_true_eq_false, false_and, or_false, true_and]
      rw [exec_code]
      simp -implicitDefEqProofs only [simA, exL, nlC, newCl, args0, oneOrTup, Nat.reduceAdd, Nat.reduceLT, Nat.reduceEqDiff, Nat.reduceLeDiff, Nat.reduceMul, leafsL, idfree, idfreeL, loadE, partE, fieldAddrE, nav, navL, frz, frzL, Int.reduceBEq, Int.reduceBNe, Int.reduceLT, Int.reduceLE, Int.reduceAdd, Int.reduceSub, Int.reduceMul, Int.reduceNeg, vInt, put, putL, setParts, loopB, loopsIn, Nat.reduceSub, Nat.reducePow, Nat.reduceDiv, Nat.reduceMod, ln_36, prs_60_4, und_36, sz_58, fo_58_0, sz_55, agg_55, keep_60, E_masks, masks, rows_60, Tryz.f60, hi, hlen, w2, ha1, ha2, hr, hbx, la, lp, ia, ip, heq, hd, route_nav, pairsOK, clsOf, compat]
      exact ⟨_, rfl, rfl⟩
    · have hd : decide (a.to = p) = false := decide_eq_false hab
      simp only [hab, ne_eq, not_false_eq_true, false_and, false_or, true_and]
      rw [exec_code]
      simp -implicitDefEqProofs only [simA, exL, nlC, newCl, args0, oneOrTup, Nat.reduceAdd, Nat.reduceLT, Nat.reduceEqDiff, Nat.reduceLeDiff, Nat.reduceMul, leafsL, idfree, idfreeL, loadE, partE, fieldAddrE, nav, navL, frz, frzL, Int.reduceBEq, Int.reduceBNe, Int.reduceLT, Int.reduceLE, Int.reduceAdd, Int.reduceSub, Int.reduceMul, Int.reduceNeg, vInt, put, putL, setParts, loopB, loopsIn, Nat.reduceSub, Nat.reducePow, Nat.reduceDiv, Nat.reduceMod, ln_36, prs_60_4, und_36, sz_58, fo_58_0, sz_55, agg_55, keep_60, E_masks, masks, rows_60, Tryz.f60, hi, hlen, w2, ha1, ha2, hr, hbx, la, lp, ia, ip, heq, hd, route_nav, pairsOK, clsOf, compat]
      exact ⟨_, rfl, rfl⟩

theorem loop60 (n n0 : Nat) (H : Heap) (x : AV) (all : List Route) (p : Pre) (bid : Nat) (hp : p.ok) (hbx : H[bid]? = some (.row 18 0 [p.av] ⟨true, 55⟩)) (hok : ∀ i ∈ all, i.ok) (s : RV H x all) (hbig : all.length < 490) : ∀ (rest pre : List Route) (j : Nat) (fr : FR), pre ++ rest = all → rest.length < j → keepF (masks 60) fr = [(0, x), (3, .ptr bid 0 0 [] 0), (5, .v (.int .i64 (pre.length : Nat)))] →
    ∃ fr', (loopN (exec E (call E (n + 499)) (n + 499) 60 20 n0 (loopB Tryz.f60 0)) (masks 60) j ⟨fr, H, [], []⟩ = some (.exit 0, ⟨fr', H, [], []⟩) ∧ (∀ r ∈ rest, r.to ≠ p)) ∨
      ∃ (k : Nat) (r : Route), loopN (exec E (call E (n + 499)) (n + 499) 60 20 n0 (loopB Tryz.f60 0)) (masks 60) j ⟨fr, H, [], []⟩ = some (.ret, ⟨fr', H, [], []⟩) ∧ AM.get fr' 4 = some (.v (.int .i64 (k : Nat))) ∧ all[k]? = some r ∧ r.to = p
  | [], pre, j, fr, hl, hj, hk => by
    obtain ⟨j, rfl⟩ : ∃ i, j = i + 1 := ⟨j - 1, by simp at hj; omega⟩
    have hi : ¬ ((pre.length : Int) < all.length) := by rw [← hl]; simp
    have hlen := s.len
    have he : ∃ fr', exec E (call E (n + 499)) (n + 499) 60 20 n0 (loopB Tryz.f60 0) ⟨[(0, x), (3, .ptr bid 0 0 [] 0), (5, .v (.int .i64 (pre.length : Nat)))], H, [], []⟩ = some (.exit 0, ⟨fr', H, [], []⟩) := by
      rw [exec_code]
      simp -implicitDefEqProofs only [simA, exL, nlC, newCl, args0, oneOrTup, Nat.reduceAdd, Nat.reduceLT, Nat.reduceEqDiff, Nat.reduceLeDiff, Nat.reduceMul, leafsL, idfree, idfreeL, loadE, partE, fieldAddrE, nav, navL, frz, frzL, Int.reduceBEq, Int.reduceBNe, Int.reduceLT, Int.reduceLE, Int.reduceAdd, Int.reduceSub, Int.reduceMul, Int.reduceNeg, vInt, put, putL, setParts, loopB, loopsIn, Nat.reduceSub, Nat.reducePow, Nat.reduceDiv, Nat.reduceMod, ln_36, prs_60_4, und_36, sz_58, fo_58_0, sz_55, agg_55, keep_60, E_masks, masks, rows_60, Tryz.f60, hi, hlen]
      exact ⟨_, rfl⟩
    obtain ⟨fr', he⟩ := he
    exact ⟨fr', .inl ⟨loopN_outK hk he, by simp⟩⟩
  | a :: rest, pre, j, fr, hl, hj, hk => by
    obtain ⟨j, rfl⟩ : ∃ i, j = i + 1 := ⟨j - 1, by simp at hj; omega⟩
    obtain ⟨fr1, ⟨hab, he, hg⟩ | ⟨hab, he, hk1⟩⟩ := round60 n n0 H x all p bid hp hbx hok s hbig rest pre a hl
    · exact ⟨fr1, .inr ⟨pre.length, a, loopN_retK hk he, hg, by rw [← hl]; simp, hab⟩⟩
    · obtain ⟨fr', g⟩ := loop60 n n0 H x all p bid hp hbx hok s hbig rest (pre ++ [a]) j fr1 (by rw [← hl]; simp) (by simp at hj; omega) (by rw [hk1]; simp)
      refine ⟨fr', ?_⟩
      rw [loopN_stepK hk he]
      simpa [hab] using g

/-- Where the reference finds a prefix. -/
def findT (l : List Route) (p : Pre) : Int := if has l p = true then (pos l p : Nat) else -1

theorem c60f (n : Nat) (h : Heap) (x : AV) (l : List Route) (p : Pre) (hp : p.ok) (hok : ∀ i ∈ l, i.ok) (s : RV h x l) (hbig : l.length < 490) (hs : Sorted l) :
    call E (n + 500) 60 [x, p.av] h = some (.v (.int .i64 (findT l p)), h, ⟨[], [], true⟩) := by
  have lp : AM.leafs p.av = 18 := Pre.leafs hp
  have tp : isTupA p.av = false := rfl
  obtain ⟨fr', ⟨g1, g2⟩ | ⟨k, r, g1, g2, g3, g4⟩⟩ := loop60 n h.length (h ++ [.row 18 0 [p.av] ⟨true, 55⟩]) x l p h.length hp (by rw [end0]; rfl) hok (s.push _) hbig l [] (n + 499) [(0, x), (3, .ptr h.length 0 0 [] 0), (5, .v (.int .i64 0))] rfl (by omega) rfl
  · have hh : has l p = false := by
      cases hh : has l p with
      | false => rfl
      | true =>
        obtain ⟨r, h1, h2⟩ := has_some hok hp hh
        exact (g2 r (List.mem_of_getElem? h1) h2).elim
    simp -implicitDefEqProofs only [simA, exL, nlC, newCl, args0, oneOrTup, Nat.reduceAdd, Nat.reduceLT, Nat.reduceEqDiff, Nat.reduceLeDiff, Nat.reduceMul, leafsL, idfree, idfreeL, loadE, partE, fieldAddrE, nav, navL, frz, frzL, Int.reduceBEq, Int.reduceBNe, Int.reduceLT, Int.reduceLE, Int.reduceAdd, Int.reduceSub, Int.reduceMul, Int.reduceNeg, vInt, put, putL, setParts, loopB, loopsIn, Nat.reduceSub, Nat.reducePow, Nat.reduceDiv, Nat.reduceMod, ln_36, prs_60_4, und_36, sz_58, fo_58_0, sz_55, agg_55, keep_60, E_masks, masks, rows_60, Tryz.f60] at g1
    have hf : findT l p = -1 := by simp [findT, hh]
    rw [hf, call_at (E := E) (f := 60) (fn := Tryz.f60) rfl Tryz.func60 rfl (Nat.le_of_ble_eq_true rfl)]
    simp -implicitDefEqProofs only [simA, exL, nlC, newCl, args0, oneOrTup, Nat.reduceAdd, Nat.reduceLT, Nat.reduceEqDiff, Nat.reduceLeDiff, Nat.reduceMul, leafsL, idfree, idfreeL, loadE, partE, fieldAddrE, nav, navL, frz, frzL, Int.reduceBEq, Int.reduceBNe, Int.reduceLT, Int.reduceLE, Int.reduceAdd, Int.reduceSub, Int.reduceMul, Int.reduceNeg, vInt, put, putL, setParts, loopB, loopsIn, Nat.reduceSub, Nat.reducePow, Nat.reduceDiv, Nat.reduceMod, ln_36, prs_60_4, und_36, sz_58, fo_58_0, sz_55, agg_55, keep_60, E_masks, masks, rows_60, Tryz.f60, lp, tp, g1]
  · obtain ⟨h1, h2⟩ := pos_of_at hs hok g3 g4
    simp -implicitDefEqProofs only [simA, exL, nlC, newCl, args0, oneOrTup, Nat.reduceAdd, Nat.reduceLT, Nat.reduceEqDiff, Nat.reduceLeDiff, Nat.reduceMul, leafsL, idfree, idfreeL, loadE, partE, fieldAddrE, nav, navL, frz, frzL, Int.reduceBEq, Int.reduceBNe, Int.reduceLT, Int.reduceLE, Int.reduceAdd, Int.reduceSub, Int.reduceMul, Int.reduceNeg, vInt, put, putL, setParts, loopB, loopsIn, Nat.reduceSub, Nat.reducePow, Nat.reduceDiv, Nat.reduceMod, ln_36, prs_60_4, und_36, sz_58, fo_58_0, sz_55, agg_55, keep_60, E_masks, masks, rows_60, Tryz.f60] at g1
    have hf : findT l p = (k : Nat) := by simp [findT, h2, h1]
    rw [hf, call_at (E := E) (f := 60) (fn := Tryz.f60) rfl Tryz.func60 rfl (Nat.le_of_ble_eq_true rfl)]
    simp -implicitDefEqProofs only [simA, exL, nlC, newCl, args0, oneOrTup, Nat.reduceAdd, Nat.reduceLT, Nat.reduceEqDiff, Nat.reduceLeDiff, Nat.reduceMul, leafsL, idfree, idfreeL, loadE, partE, fieldAddrE, nav, navL, frz, frzL, Int.reduceBEq, Int.reduceBNe, Int.reduceLT, Int.reduceLE, Int.reduceAdd, Int.reduceSub, Int.reduceMul, Int.reduceNeg, vInt, put, putL, setParts, loopB, loopsIn, Nat.reduceSub, Nat.reducePow, Nat.reduceDiv, Nat.reduceMod, ln_36, prs_60_4, und_36, sz_58, fo_58_0, sz_55, agg_55, keep_60, E_masks, masks, rows_60, Tryz.f60, lp, tp, g1, g2]

end Go.Proofs.YtobdjegooonklaaGreat

set_option linter.unusedSimpArgs false
set_option linter.unusedVariables false
set_option maxRecDepth 100000
set_option maxHeartbeats 1000000
namespace Go.Proofs.YtobdjegooonklaaGreat
open Go Go.AM

/-- A slice that grows by appending, in a row of its own behind B. -/
def OutG (B : Heap) (k : Nat) (ty : TypeId) (els : List AV) (x : AV) (H : Heap) : Prop := (els = [] ∧ (x = nilS ∨ x = .lit k true []) ∧ H = B) ∨ (els ≠ [] ∧ ∃ g, x = .sl B.length g 0 els.length ∧ H = B ++ [.row k g els ⟨false, ty⟩])

theorem OutG.len {B : Heap} {k : Nat} {ty : TypeId} {els : List AV} {x : AV} {H : Heap} (o : OutG B k ty els x H) : sliceLen x = some els.length := by
  rcases o with ⟨rfl, rfl | rfl, rfl⟩ | ⟨_, g, rfl, rfl⟩ <;> rfl
theorem OutG.old {B : Heap} {k : Nat} {ty : TypeId} {els : List AV} {x : AV} {H : Heap} (o : OutG B k ty els x H) : ∀ id, id < B.length → H[id]? = B[id]? := by
  rcases o with ⟨_, _, rfl⟩ | ⟨_, g, _, rfl⟩
  · exact fun _ _ => rfl
  · exact fun id hi => List.getElem?_append_left hi
theorem OutG.app {B : Heap} {k : Nat} {ty : TypeId} {els : List AV} {x : AV} {H : Heap} (o : OutG B k ty els x H) (y : AV) (hy : idfree y = true) : ∃ x' H' s c, appendTo H ty k x [y] = some (x', H', s, c) ∧ (s = none ∨ s = some (B.length, false)) ∧ OutG B k ty (els ++ [y]) x' H' := by
  rcases o with ⟨rfl, rfl | rfl, rfl⟩ | ⟨hne, g, rfl, rfl⟩
  · exact ⟨_, _, none, _, rfl, .inl rfl, .inr ⟨by simp, 0, rfl, rfl⟩⟩
  · exact ⟨.sl H.length 0 0 1, H ++ [.row k 0 [y] ⟨false, ty⟩], none, .st H.length, by rw [Zev]; simp, .inl rfl, .inr ⟨by simp, 0, rfl, rfl⟩⟩
  · have := app_new (h := B ++ [.row k g els ⟨false, ty⟩]) (id := B.length) (gen := g) (len := els.length) (k := k) (e := ty) (xs := [y]) (els := els) (ex := ⟨false, ty⟩) (by rw [end0]; rfl) rfl rfl (by simp)
    rw [endS0] at this
    refine ⟨_, _, _, _, this, .inr (by simp [idfreeL, hy]), .inr ⟨by simp, g + 1, ?_, ?_⟩⟩
    · simp
    · simp
theorem OutG.fit {B : Heap} {k : Nat} {ty : TypeId} {els : List AV} {x : AV} {H : Heap} (o : OutG B k ty els x H) : AM.leafs x = 1 ∧ isAggA x = false ∧ isTupA x = false := by
  rcases o with ⟨rfl, rfl | rfl, rfl⟩ | ⟨_, g, rfl, rfl⟩ <;> exact ⟨rfl, rfl, rfl⟩

/-- A route among others, where the first bigger one stands. -/
def insW (r : Route) : Bool → List Route → List Route × Bool
  | b, [] => ([], b)
  | b, a :: l => if b = false ∧ cmpP r.to a.to < 0 then (r :: a :: (insW r true l).1, (insW r true l).2) else (a :: (insW r b l).1, (insW r b l).2)
def insF (r : Route) (l : List Route) : List Route := if (insW r false l).2 = true then (insW r false l).1 else (insW r false l).1 ++ [r]

theorem insW_true (r : Route) : ∀ l : List Route, insW r true l = (l, true)
  | [] => rfl
  | a :: l => by simp [insW, insW_true r l]
theorem insF_eq {r : Route} (hr : r.ok) : ∀ {l : List Route}, (∀ q ∈ l, q.ok) → has l r.to = false → insF r l = insAt l (pos l r.to) r
  | [], _, _ => by simp [insF, insW, insAt, pos]
  | a :: l, ho, hh => by
    have oa := (ho a (List.mem_cons_self ..)).1.1
    have hn := cmpP_neg (p := a.to) (q := r.to) oa hr.1.1
    by_cases hlt : cmpP a.to r.to < 0
    · have hp : pos (a :: l) r.to = pos l r.to + 1 := by rw [pos_cons, if_pos (show cmpAt r.to a < 0 from hlt)]
      have hh' : has l r.to = false := by
        unfold has at hh ⊢
        rw [hp, List.getElem?_cons_succ] at hh
        exact hh
      have ih := insF_eq hr (fun q hq => ho q (List.mem_cons_of_mem _ hq)) hh'
      have hge : ¬ cmpP r.to a.to < 0 := by omega
      have hw : insW r false (a :: l) = (a :: (insW r false l).1, (insW r false l).2) := by simp [insW, hge]
      unfold insF at ih ⊢
      rw [hw, hp]
      simp only [insAt, List.take_succ_cons, List.drop_succ_cons, List.cons_append]
      unfold insAt at ih
      rw [← ih]
      split <;> simp
    · have hp : pos (a :: l) r.to = 0 := by rw [pos_cons, if_neg (show ¬ cmpAt r.to a < 0 from hlt)]
      have hz : cmpP a.to r.to ≠ 0 := by
        intro hz
        unfold has at hh
        rw [hp] at hh
        simp [cmpAt, hz] at hh
      have hlt2 : cmpP r.to a.to < 0 := by omega
      unfold insF
      rw [hp]
      simp [insW, hlt2, insW_true, insAt]

theorem fa_rop (r : Route) : fieldAddrE E.P 58 (.rop r.av) 0 = some (.rop r.to.av) := by
  simp only [fieldAddrE, fo_58_0, Route.av]
  rfl
theorem fa_ptr {id g i o : Nat} {p : List Nat} : fieldAddrE E.P 58 (.ptr id g i p o) 0 = some (.ptr id g i (p ++ [0]) (o + 0)) := by
  simp only [fieldAddrE, fo_58_0]
  rfl

theorem round92 (n : Nat) (h : Heap) (x : AV) (all : List Route) (r : Route) (hr : r.ok) (hok : ∀ i ∈ all, i.ok) (s : RV h x all) (hbig : all.length < 490) (rest pre : List Route) (a : Route) (hl : pre ++ a :: rest = all) (b : Bool) (out : List Route) (t : AV) (H : Heap) (hout : out.length < 1000) (o : OutG (h ++ [.row 20 0 [r.av] ⟨true, 58⟩]) 20 58 (out.map Route.av) t H) :
    ∃ fr' t' H', exec E (call E (n + 502)) (n + 502) 92 70 h.length (loopB Tryz.f92 0) ⟨[(0, x), (3, .ptr h.length 0 0 [] 0), (8, t), (9, .v (.bool b)), (10, .v (.int .i64 (pre.length : Nat)))], H, [], []⟩ = some (.normal, ⟨fr', H', [], []⟩) ∧
      keepF (masks 92) fr' = [(0, x), (3, .ptr h.length 0 0 [] 0), (8, t'), (9, .v (.bool (b || decide (cmpP r.to a.to < 0)))), (10, .v (.int .i64 ((pre.length + 1 : Nat) : Int)))] ∧
      OutG (h ++ [.row 20 0 [r.av] ⟨true, 58⟩]) 20 58 ((out ++ if b = false ∧ cmpP r.to a.to < 0 then [r, a] else [a]).map Route.av) t' H' := by
  have hi : ((pre.length : Int) < all.length) := by rw [← hl]; simp; omega
  have hlen := s.len
  have ha0 : a.ok := hok a (by rw [← hl]; simp)
  have ga : all[pre.length]? = some a := by rw [← hl]; simp
  have hpl : pre.length < 490 := by rw [← hl] at hbig; simp at hbig; omega
  have w2 := wrapN1 (n := pre.length) (by omega)
  have hby : (out.length + 1) * 48 ≤ 140737488355328 := by omega
  have hby2 : (out.length + 1 + 1) * 48 ≤ 140737488355328 := Nat.le_trans (Nat.mul_le_mul_right 48 (show out.length + 1 + 1 ≤ 1002 by omega)) (by decide)
  have la : AM.leafs a.av = 20 := Route.leafs ha0
  have lr : AM.leafs r.av = 20 := Route.leafs hr
  have lat : AM.leafs a.to.av = 18 := Pre.leafs ha0.1
  have lrt : AM.leafs r.to.av = 18 := Pre.leafs hr.1
  have ia : isAggA a.av = true := rfl
  have ir : isAggA r.av = true := rfl
  have iat : isAggA a.to.av = true := rfl
  have irt : isAggA r.to.av = true := rfl
  have k98 := fun m H => c98 m r.to a.to hr.1 ha0.1 H
  have sH : RV H x all := s.stay fun id hid => by rw [o.old id (by simp; omega), List.getElem?_append_left hid]
  have hbx : H[h.length]? = some (.row 20 0 [r.av] ⟨true, 58⟩) := by rw [o.old h.length (by simp)]; simp
  have hsl : sliceLen t = some out.length := by rw [o.len]; simp
  have hzl : leafsL (List.replicate 16 (AV.v (.int .u8 0))) = 16 := by kernel_rfl
  obtain ⟨t1, H1, s1, c1, a1, hs1, o1⟩ := o.app a.av (idfree_route a)
  obtain ⟨u1, K1, v1, d1, b1, hv1, p1⟩ := o.app r.av (idfree_route r)
  obtain ⟨u2, K2, v2, d2, b2, hv2, p2⟩ := p1.app a.av (idfree_route a)
  have hsl2 : sliceLen u1 = some (out.length + 1) := by rw [p1.len]; simp
  have hB : (h ++ [Row.row 20 0 [r.av] ⟨true, 58⟩]).length = h.length + 1 := by simp
  rw [hB] at hs1 hv1 hv2
  have hbx1 : K1[h.length]? = some (.row 20 0 [r.av] ⟨true, 58⟩) := by rw [p1.old h.length (by simp)]; simp
  have sH1 : RV K1 x all := s.stay fun id hid => by rw [p1.old id (by simp; omega), List.getElem?_append_left hid]
  have ta : isTupA a.av = false := rfl
  have tr : isTupA r.av = false := rfl
  rw [exec_code]
  rcases sH with ⟨rfl, rfl⟩ | ⟨b', rfl⟩ | ⟨id, g, els, ex, rfl, hrow, ht⟩
  · simp at hl
  · have e1 := lit_at (h := H) (b := b') ga
    have e2 := lit_at (h := K1) (b := b') ga
    cases b with
    | true =>
      rcases hs1 with rfl | rfl
      · simp -implicitDefEqProofs only [simA, exL, nlC, newCl, args0, oneOrTup, Nat.reduceAdd, Nat.reduceLT, Nat.reduceEqDiff, Nat.reduceLeDiff, Nat.reduceMul, leafsL, idfree, idfreeL, loadE, partE, nav, navL, frz, frzL, Int.reduceBEq, Int.reduceBNe, Int.reduceLT, Int.reduceLE, Int.reduceAdd, Int.reduceSub, Int.reduceMul, Int.reduceNeg, vInt, put, putL, setParts, loopB, loopsIn, Nat.reduceSub, Nat.reducePow, Nat.reduceDiv, Nat.reduceMod, sz_58, agg_58, fo_58_0, sz_55, agg_55, bs_36_0_92, ap_36_36, src_36, und_36, ln_36, prs_92_15, bs_36_1_92, keep_92, E_masks, masks, rows_92, Tryz.f92, hi, hlen, w2, e1, e2, hbx, hbx1, la, lr, lat, lrt, ia, ir, ta, tr, iat, irt, hsl, hsl2, hby, hby2, a1, b1, b2, hzl, route_nav, fa_rop, fa_ptr, k98, pairsOK, clsOf, compat]
        exact ⟨_, _, _, rfl, rfl, by simpa using o1⟩
      · simp -implicitDefEqProofs only [simA, exL, nlC, newCl, args0, oneOrTup, Nat.reduceAdd, Nat.reduceLT, Nat.reduceEqDiff, Nat.reduceLeDiff, Nat.reduceMul, leafsL, idfree, idfreeL, loadE, partE, nav, navL, frz, frzL, Int.reduceBEq, Int.reduceBNe, Int.reduceLT, Int.reduceLE, Int.reduceAdd, Int.reduceSub, Int.reduceMul, Int.reduceNeg, vInt, put, putL, setParts, loopB, loopsIn, Nat.reduceSub, Nat.reducePow, Nat.reduceDiv, Nat.reduceMod, sz_58, agg_58, fo_58_0, sz_55, agg_55, bs_36_0_92, ap_36_36, src_36, und_36, ln_36, prs_92_15, bs_36_1_92, keep_92, E_masks, masks, rows_92, Tryz.f92, hi, hlen, w2, e1, e2, hbx, hbx1, la, lr, lat, lrt, ia, ir, ta, tr, iat, irt, hsl, hsl2, hby, hby2, a1, b1, b2, hzl, route_nav, fa_rop, fa_ptr, k98, pairsOK, clsOf, compat]
        exact ⟨_, _, _, rfl, rfl, by simpa using o1⟩
    | false =>
      by_cases hlt : cmpP r.to a.to < 0
      · have hd : decide (cmpP r.to a.to < 0) = true := decide_eq_true hlt
        rcases hv1 with rfl | rfl <;> rcases hv2 with rfl | rfl
        · simp -implicitDefEqProofs only [simA, exL, nlC, newCl, args0, oneOrTup, Nat.reduceAdd, Nat.reduceLT, Nat.reduceEqDiff, Nat.reduceLeDiff, Nat.reduceMul, leafsL, idfree, idfreeL, loadE, partE, nav, navL, frz, frzL, Int.reduceBEq, Int.reduceBNe, Int.reduceLT, Int.reduceLE, Int.reduceAdd, Int.reduceSub, Int.reduceMul, Int.reduceNeg, vInt, put, putL, setParts, loopB, loopsIn, Nat.reduceSub, Nat.reducePow, Nat.reduceDiv, Nat.reduceMod, sz_58, agg_58, fo_58_0, sz_55, agg_55, bs_36_0_92, ap_36_36, src_36, und_36, ln_36, prs_92_15, bs_36_1_92, keep_92, E_masks, masks, rows_92, Tryz.f92, hi, hlen, w2, e1, e2, hbx, hbx1, la, lr, lat, lrt, ia, ir, ta, tr, iat, irt, hsl, hsl2, hby, hby2, a1, b1, b2, hzl, route_nav, fa_rop, fa_ptr, k98, pairsOK, clsOf, compat, hd]
          exact ⟨_, _, _, rfl, rfl, by simpa [hlt] using p2⟩
        · simp -implicitDefEqProofs only [simA, exL, nlC, newCl, args0, oneOrTup, Nat.reduceAdd, Nat.reduceLT, Nat.reduceEqDiff, Nat.reduceLeDiff, Nat.reduceMul, leafsL, idfree, idfreeL, loadE, partE, nav, navL, frz, frzL, Int.reduceBEq, Int.reduceBNe, Int.reduceLT, Int.reduceLE, Int.reduceAdd, Int.reduceSub, Int.reduceMul, Int.reduceNeg, vInt, put, putL, setParts, loopB, loopsIn, Nat.reduceSub, Nat.reducePow, Nat.reduceDiv, Nat.reduceMod, sz_58, agg_58, fo_58_0, sz_55, agg_55, bs_36_0_92, ap_36_36, src_36, und_36, ln_36, prs_92_15, bs_36_1_92, keep_92, E_masks, masks, rows_92, Tryz.f92, hi, hlen, w2, e1, e2, hbx, hbx1, la, lr, lat, lrt, ia, ir, ta, tr, iat, irt, hsl, hsl2, hby, hby2, a1, b1, b2, hzl, route_nav, fa_rop, fa_ptr, k98, pairsOK, clsOf, compat, hd]
          exact ⟨_, _, _, rfl, rfl, by simpa [hlt] using p2⟩
        · simp -implicitDefEqProofs only [simA, exL, nlC, newCl, args0, oneOrTup, Nat.reduceAdd, Nat.reduceLT, Nat.reduceEqDiff, Nat.reduceLeDiff, Nat.reduceMul, leafsL, idfree, idfreeL, loadE, partE, nav, navL, frz, frzL, Int.reduceBEq, Int.reduceBNe, Int.reduceLT, Int.reduceLE, Int.reduceAdd, Int.reduceSub, Int.reduceMul, Int.reduceNeg, vInt, put, putL, setParts, loopB, loopsIn, Nat.reduceSub, Nat.reducePow, Nat.reduceDiv, Nat.reduceMod, sz_58, agg_58, fo_58_0, sz_55, agg_55, bs_36_0_92, ap_36_36, src_36, und_36, ln_36, prs_92_15, bs_36_1_92, keep_92, E_masks, masks, rows_92, Tryz.f92, hi, hlen, w2, e1, e2, hbx, hbx1, la, lr, lat, lrt, ia, ir, ta, tr, iat, irt, hsl, hsl2, hby, hby2, a1, b1, b2, hzl, route_nav, fa_rop, fa_ptr, k98, pairsOK, clsOf, compat, hd]
          exact ⟨_, _, _, rfl, rfl, by simpa [hlt] using p2⟩
        · simp -implicitDefEqProofs only [simA, exL, nlC, newCl, args0, oneOrTup, Nat.reduceAdd, Nat.reduceLT, Nat.reduceEqDiff, Nat.reduceLeDiff, Nat.reduceMul, leafsL, idfree, idfreeL, loadE, partE, nav, navL, frz, frzL, Int.reduceBEq, Int.reduceBNe, Int.reduceLT, Int.reduceLE, Int.reduceAdd, Int.reduceSub, Int.reduceMul, Int.reduceNeg, vInt, put, putL, setParts, loopB, loopsIn, Nat.reduceSub, Nat.reducePow, Nat.reduceDiv, Nat.reduceMod, sz_58, agg_58, fo_58_0, sz_55, agg_55, bs_36_0_92, ap_36_36, src_36, und_36, ln_36, prs_92_15, bs_36_1_92, keep_92, E_masks, masks, rows_92, Tryz.f92, hi, hlen, w2, e1, e2, hbx, hbx1, la, lr, lat, lrt, ia, ir, ta, tr, iat, irt, hsl, hsl2, hby, hby2, a1, b1, b2, hzl, route_nav, fa_rop, fa_ptr, k98, pairsOK, clsOf, compat, hd]
          exact ⟨_, _, _, rfl, rfl, by simpa [hlt] using p2⟩
      · have hd : decide (cmpP r.to a.to < 0) = false := decide_eq_false hlt
        rcases hs1 with rfl | rfl
        · simp -implicitDefEqProofs only [simA, exL, nlC, newCl, args0, oneOrTup, Nat.reduceAdd, Nat.reduceLT, Nat.reduceEqDiff, Nat.reduceLeDiff, Nat.reduceMul, leafsL, idfree, idfreeL, loadE, partE, nav, navL, frz, frzL, Int.reduceBEq, Int.reduceBNe, Int.reduceLT, Int.reduceLE, Int.reduceAdd, Int.reduceSub, Int.reduceMul, Int.reduceNeg, vInt, put, putL, setParts, loopB, loopsIn, Nat.reduceSub, Nat.reducePow, Nat.reduceDiv, Nat.reduceMod, sz_58, agg_58, fo_58_0, sz_55, agg_55, bs_36_0_92, ap_36_36, src_36, und_36, ln_36, prs_92_15, bs_36_1_92, keep_92, E_masks, masks, rows_92, Tryz.f92, hi, hlen, w2, e1, e2, hbx, hbx1, la, lr, lat, lrt, ia, ir, ta, tr, iat, irt, hsl, hsl2, hby, hby2, a1, b1, b2, hzl, route_nav, fa_rop, fa_ptr, k98, pairsOK, clsOf, compat, hd]
          exact ⟨_, _, _, rfl, rfl, by simpa [hlt] using o1⟩
        · simp -implicitDefEqProofs only [simA, exL, nlC, newCl, args0, oneOrTup, Nat.reduceAdd, Nat.reduceLT, Nat.reduceEqDiff, Nat.reduceLeDiff, Nat.reduceMul, leafsL, idfree, idfreeL, loadE, partE, nav, navL, frz, frzL, Int.reduceBEq, Int.reduceBNe, Int.reduceLT, Int.reduceLE, Int.reduceAdd, Int.reduceSub, Int.reduceMul, Int.reduceNeg, vInt, put, putL, setParts, loopB, loopsIn, Nat.reduceSub, Nat.reducePow, Nat.reduceDiv, Nat.reduceMod, sz_58, agg_58, fo_58_0, sz_55, agg_55, bs_36_0_92, ap_36_36, src_36, und_36, ln_36, prs_92_15, bs_36_1_92, keep_92, E_masks, masks, rows_92, Tryz.f92, hi, hlen, w2, e1, e2, hbx, hbx1, la, lr, lat, lrt, ia, ir, ta, tr, iat, irt, hsl, hsl2, hby, hby2, a1, b1, b2, hzl, route_nav, fa_rop, fa_ptr, k98, pairsOK, clsOf, compat, hd]
          exact ⟨_, _, _, rfl, rfl, by simpa [hlt] using o1⟩
  · obtain ⟨e1, f1⟩ := sl_at hrow ht ga
    have hid : id < h.length := by
      rcases s with ⟨h0, _⟩ | ⟨_, h0⟩ | ⟨_, _, _, _, h0, h1, _⟩
      · cases h0
      · cases h0
      · injection h0 with h0
        subst h0
        exact lt_of_getElem? h1
    have hrow1 : K1[id]? = some (.row 20 g els ex) := by
      rw [p1.old id (by simp; omega), ← o.old id (by simp; omega)]
      exact hrow
    obtain ⟨e2, _⟩ := sl_at hrow1 ht ga
    cases b with
    | true =>
      rcases hs1 with rfl | rfl
      · simp -implicitDefEqProofs only [simA, exL, nlC, newCl, args0, oneOrTup, Nat.reduceAdd, Nat.reduceLT, Nat.reduceEqDiff, Nat.reduceLeDiff, Nat.reduceMul, leafsL, idfree, idfreeL, loadE, partE, fieldAddrE, nav, navL, frz, frzL, Int.reduceBEq, Int.reduceBNe, Int.reduceLT, Int.reduceLE, Int.reduceAdd, Int.reduceSub, Int.reduceMul, Int.reduceNeg, vInt, put, putL, setParts, loopB, loopsIn, Nat.reduceSub, Nat.reducePow, Nat.reduceDiv, Nat.reduceMod, sz_58, agg_58, fo_58_0, sz_55, agg_55, bs_36_0_92, ap_36_36, src_36, und_36, ln_36, prs_92_15, bs_36_1_92, keep_92, E_masks, masks, rows_92, Tryz.f92, hi, hlen, w2, e1, e2, hbx, hbx1, la, lr, lat, lrt, ia, ir, ta, tr, iat, irt, hsl, hsl2, hby, hby2, a1, b1, b2, hzl, route_nav, k98, pairsOK, clsOf, compat, hrow, hrow1, f1]
        exact ⟨_, _, _, rfl, rfl, by simpa using o1⟩
      · simp -implicitDefEqProofs only [simA, exL, nlC, newCl, args0, oneOrTup, Nat.reduceAdd, Nat.reduceLT, Nat.reduceEqDiff, Nat.reduceLeDiff, Nat.reduceMul, leafsL, idfree, idfreeL, loadE, partE, fieldAddrE, nav, navL, frz, frzL, Int.reduceBEq, Int.reduceBNe, Int.reduceLT, Int.reduceLE, Int.reduceAdd, Int.reduceSub, Int.reduceMul, Int.reduceNeg, vInt, put, putL, setParts, loopB, loopsIn, Nat.reduceSub, Nat.reducePow, Nat.reduceDiv, Nat.reduceMod, sz_58, agg_58, fo_58_0, sz_55, agg_55, bs_36_0_92, ap_36_36, src_36, und_36, ln_36, prs_92_15, bs_36_1_92, keep_92, E_masks, masks, rows_92, Tryz.f92, hi, hlen, w2, e1, e2, hbx, hbx1, la, lr, lat, lrt, ia, ir, ta, tr, iat, irt, hsl, hsl2, hby, hby2, a1, b1, b2, hzl, route_nav, k98, pairsOK, clsOf, compat, hrow, hrow1, f1]
        exact ⟨_, _, _, rfl, rfl, by simpa using o1⟩
    | false =>
      by_cases hlt : cmpP r.to a.to < 0
      · have hd : decide (cmpP r.to a.to < 0) = true := decide_eq_true hlt
        rcases hv1 with rfl | rfl <;> rcases hv2 with rfl | rfl
        · simp -implicitDefEqProofs only [simA, exL, nlC, newCl, args0, oneOrTup, Nat.reduceAdd, Nat.reduceLT, Nat.reduceEqDiff, Nat.reduceLeDiff, Nat.reduceMul, leafsL, idfree, idfreeL, loadE, partE, fieldAddrE, nav, navL, frz, frzL, Int.reduceBEq, Int.reduceBNe, Int.reduceLT, Int.reduceLE, Int.reduceAdd, Int.reduceSub, Int.reduceMul, Int.reduceNeg, vInt, put, putL, setParts, loopB, loopsIn, Nat.reduceSub, Nat.reducePow, Nat.reduceDiv, Nat.reduceMod, sz_58, agg_58, fo_58_0, sz_55, agg_55, bs_36_0_92, ap_36_36, src_36, und_36, ln_36, prs_92_15, bs_36_1_92, keep_92, E_masks, masks, rows_92, Tryz.f92, hi, hlen, w2, e1, e2, hbx, hbx1, la, lr, lat, lrt, ia, ir, ta, tr, iat, irt, hsl, hsl2, hby, hby2, a1, b1, b2, hzl, route_nav, k98, pairsOK, clsOf, compat, hrow, hrow1, f1, hd]
          exact ⟨_, _, _, rfl, rfl, by simpa [hlt] using p2⟩
        · simp -implicitDefEqProofs only [simA, exL, nlC, newCl, args0, oneOrTup, Nat.reduceAdd, Nat.reduceLT, Nat.reduceEqDiff, Nat.reduceLeDiff, Nat.reduceMul, leafsL, idfree, idfreeL, loadE, partE, fieldAddrE, nav, navL, frz, frzL, Int.reduceBEq, Int.reduceBNe, Int.reduceLT, Int.reduceLE, Int.reduceAdd, Int.reduceSub, Int.reduceMul, Int.reduceNeg, vInt, put, putL, setParts, loopB, loopsIn, Nat.reduceSub, Nat.reducePow, Nat.reduceDiv, Nat.reduceMod, sz_58, agg_58, fo_58_0, sz_55, agg_55, bs_36_0_92, ap_36_36, src_36, und_36, ln_36, prs_92_15, bs_36_1_92, keep_92, E_masks, masks, rows_92, Tryz.f92, hi, hlen, w2, e1, e2, hbx, hbx1, la, lr, lat, lrt, ia, ir, ta, tr, iat, irt, hsl, hsl2, hby, hby2, a1, b1, b2, hzl, route_nav, k98, pairsOK, clsOf, compat, hrow, hrow1, f1, hd]
          exact ⟨_, _, _, rfl, rfl, by simpa [hlt] using p2⟩
        · simp -implicitDefEqProofs only [simA, exL, nlC, newCl, args0, oneOrTup, Nat.reduceAdd, Nat.reduceLT, Nat.reduceEqDiff, Nat.reduceLeDiff, Nat.reduceMul, leafsL, idfree, idfreeL, loadE, partE, fieldAddrE, nav, navL, frz, frzL, Int.reduceBEq, Int.reduceBNe, Int.reduceLT, Int.reduceLE, Int.reduceAdd, Int.reduceSub, Int.reduceMul, Int.reduceNeg, vInt, put, putL, setParts, loopB, loopsIn, Nat.reduceSub, Nat.reducePow, Nat.reduceDiv, Nat.reduceMod, sz_58, agg_58, fo_58_0, sz_55, agg_55, bs_36_0_92, ap_36_36, src_36, und_36, ln_36, prs_92_15, bs_36_1_92, keep_92, E_masks, masks, rows_92, Tryz.f92, hi, hlen, w2, e1, e2, hbx, hbx1, la, lr, lat, lrt, ia, ir, ta, tr, iat, irt, hsl, hsl2, hby, hby2, a1, b1, b2, hzl, route_nav, k98, pairsOK, clsOf, compat, hrow, hrow1, f1, hd]
          exact ⟨_, _, _, rfl, rfl, by simpa [hlt] using p2⟩
        · simp -implicitDefEqProofs only [simA, exL, nlC, newCl, args0, oneOrTup, Nat.reduceAdd, Nat.reduceLT, Nat.reduceEqDiff, Nat.reduceLeDiff, Nat.reduceMul, leafsL, idfree, idfreeL, loadE, partE, fieldAddrE, nav, navL, frz, frzL, Int.reduceBEq, Int.reduceBNe, Int.reduceLT, Int.reduceLE, Int.reduceAdd, Int.reduceSub, Int.reduceMul, Int.reduceNeg, vInt, put, putL, setParts, loopB, loopsIn, Nat.reduceSub, Nat.reducePow, Nat.reduceDiv, Nat.reduceMod, sz_58, agg_58, fo_58_0, sz_55, agg_55, bs_36_0_92, ap_36_36, src_36, und_36, ln_36, prs_92_15, bs_36_1_92, keep_92, E_masks, masks, rows_92, Tryz.f92, hi, hlen, w2, e1, e2, hbx, hbx1, la, lr, lat, lrt, ia, ir, ta, tr, iat, irt, hsl, hsl2, hby, hby2, a1, b1, b2, hzl, route_nav, k98, pairsOK, clsOf, compat, hrow, hrow1, f1, hd]
          exact ⟨_, _, _, rfl, rfl, by simpa [hlt] using p2⟩
      · have hd : decide (cmpP r.to a.to < 0) = false := decide_eq_false hlt
        rcases hs1 with rfl | rfl
        · simp -implicitDefEqProofs only [simA, exL, nlC, newCl, args0, oneOrTup, Nat.reduceAdd, Nat.reduceLT, Nat.reduceEqDiff, Nat.reduceLeDiff, Nat.reduceMul, leafsL, idfree, idfreeL, loadE, partE, fieldAddrE, nav, navL, frz, frzL, Int.reduceBEq, Int.reduceBNe, Int.reduceLT, Int.reduceLE, Int.reduceAdd, Int.reduceSub, Int.reduceMul, Int.reduceNeg, vInt, put, putL, setParts, loopB, loopsIn, Nat.reduceSub, Nat.reducePow, Nat.reduceDiv, Nat.reduceMod, sz_58, agg_58, fo_58_0, sz_55, agg_55, bs_36_0_92, ap_36_36, src_36, und_36, ln_36, prs_92_15, bs_36_1_92, keep_92, E_masks, masks, rows_92, Tryz.f92, hi, hlen, w2, e1, e2, hbx, hbx1, la, lr, lat, lrt, ia, ir, ta, tr, iat, irt, hsl, hsl2, hby, hby2, a1, b1, b2, hzl, route_nav, k98, pairsOK, clsOf, compat, hrow, hrow1, f1, hd]
          exact ⟨_, _, _, rfl, rfl, by simpa [hlt] using o1⟩
        · simp -implicitDefEqProofs only [simA, exL, nlC, newCl, args0, oneOrTup, Nat.reduceAdd, Nat.reduceLT, Nat.reduceEqDiff, Nat.reduceLeDiff, Nat.reduceMul, leafsL, idfree, idfreeL, loadE, partE, fieldAddrE, nav, navL, frz, frzL, Int.reduceBEq, Int.reduceBNe, Int.reduceLT, Int.reduceLE, Int.reduceAdd, Int.reduceSub, Int.reduceMul, Int.reduceNeg, vInt, put, putL, setParts, loopB, loopsIn, Nat.reduceSub, Nat.reducePow, Nat.reduceDiv, Nat.reduceMod, sz_58, agg_58, fo_58_0, sz_55, agg_55, bs_36_0_92, ap_36_36, src_36, und_36, ln_36, prs_92_15, bs_36_1_92, keep_92, E_masks, masks, rows_92, Tryz.f92, hi, hlen, w2, e1, e2, hbx, hbx1, la, lr, lat, lrt, ia, ir, ta, tr, iat, irt, hsl, hsl2, hby, hby2, a1, b1, b2, hzl, route_nav, k98, pairsOK, clsOf, compat, hrow, hrow1, f1, hd]
          exact ⟨_, _, _, rfl, rfl, by simpa [hlt] using o1⟩

end Go.Proofs.YtobdjegooonklaaGreat
