/- The reference's order of prefixes. Conditions: none. -/
import Derived.Test.YtobdjegooonklaaGreatAmOut
import Derived.Test.YtobdjegooonklaaGreatAmRefA
set_option linter.unusedSimpArgs false
set_option linter.unusedVariables false
set_option maxRecDepth 100000
set_option maxHeartbeats 1000000
namespace Go.Proofs.YtobdjegooonklaaGreat
open Go Go.AM

theorem nums_cons {l : List UInt8} {i : Nat} (h : i < l.length) : nums (l.drop i) = ((l[i]).toNat : Int) :: nums (l.drop (i + 1)) := by
  rw [List.drop_eq_getElem_cons h]
  rfl

theorem loop98 (n n0 : Nat) (h H : Heap) (p q : Pre) (ip iq : Nat) (hp : p.ok) (hq : q.ok) (rp : H[ip]? = some (.row 18 0 [p.av] ⟨true, 55⟩)) (rq : H[iq]? = some (.row 18 0 [q.av] ⟨true, 55⟩)) : ∀ (k i j : Nat) (fr : FR), i + k = 16 → k < j → keepF (masks 98) fr = [(2, .ptr ip 0 0 [] 0), (3, .ptr iq 0 0 [] 0), (5, .v (.int .i64 (i : Nat)))] →
    ∃ fr', (loopN (exec E (call E (n + 499)) (n + 499) 98 45 n0 (loopB Tryz.f98 0)) (masks 98) j ⟨fr, H, [], []⟩ = some (.exit 0, ⟨fr', H, [], []⟩) ∧ AM.get fr' 2 = some (.ptr ip 0 0 [] 0) ∧ AM.get fr' 3 = some (.ptr iq 0 0 [] 0) ∧ lexI (nums (p.ad.drop i)) (nums (q.ad.drop i)) = 0) ∨
      (loopN (exec E (call E (n + 499)) (n + 499) 98 45 n0 (loopB Tryz.f98 0)) (masks 98) j ⟨fr, H, [], []⟩ = some (.ret, ⟨fr', H, [], []⟩) ∧ AM.get fr' 4 = some (.v (.int .i64 (lexI (nums (p.ad.drop i)) (nums (q.ad.drop i))))) ∧ lexI (nums (p.ad.drop i)) (nums (q.ad.drop i)) ≠ 0) := by
  intro k
  have l1 : leafsL (ofBytes p.ad) = 16 := by rw [leafs_ofBytes]; exact hp.1
  have l2 : leafsL (ofBytes q.ad) = 16 := by rw [leafs_ofBytes]; exact hq.1
  induction k with
  | zero =>
    intro i j fr hik hj hk
    obtain ⟨j, rfl⟩ : ∃ i, j = i + 1 := ⟨j - 1, by omega⟩
    have hi : ¬ ((i : Int) < 16) := by omega
    have he : ∃ fr', exec E (call E (n + 499)) (n + 499) 98 45 n0 (loopB Tryz.f98 0) ⟨[(2, .ptr ip 0 0 [] 0), (3, .ptr iq 0 0 [] 0), (5, .v (.int .i64 (i : Nat)))], H, [], []⟩ = some (.exit 0, ⟨fr', H, [], []⟩) ∧ AM.get fr' 2 = some (.ptr ip 0 0 [] 0) ∧ AM.get fr' 3 = some (.ptr iq 0 0 [] 0) := by
      rw [exec_code]
      simp -implicitDefEqProofs only [simA, Nat.reduceAdd, Nat.reduceLT, Nat.reduceEqDiff, Nat.reduceLeDiff, Nat.reduceMul, Int.reduceBEq, Int.reduceBNe, Int.reduceLT, Int.reduceLE, Int.reduceAdd, Int.reduceSub, Int.reduceMul, Int.reduceNeg, Nat.reduceSub, Nat.reducePow, Nat.reduceDiv, Nat.reduceMod, fo_55_0, sz_4, agg_4, prs_98_8, fo_55_1, und_53, sz_5, agg_5, prs_98_10, fo_55_2, sz_3, agg_3, keep_98, E_masks, masks, rows_98, Tryz.f98, hi]
      exact ⟨_, rfl, rfl, rfl⟩
    obtain ⟨fr', he, g2, g3⟩ := he
    refine ⟨fr', .inl ⟨loopN_outK hk he, g2, g3, ?_⟩⟩
    rw [List.drop_eq_nil_of_le (by rw [hp.1]; omega), List.drop_eq_nil_of_le (by rw [hq.1]; omega)]
    rfl
  | succ k ih =>
    intro i j fr hik hj hk
    obtain ⟨j, rfl⟩ : ∃ i, j = i + 1 := ⟨j - 1, by omega⟩
    have hi : ((i : Int) < 16) := by omega
    have h16 : i < 16 := by omega
    have w1 := wrapN1 (n := i) (by omega)
    have hil : i < p.ad.length := by rw [hp.1]; exact h16
    have hiq : i < q.ad.length := by rw [hq.1]; exact h16
    have n1 := navL_bytes (List.getElem?_eq_getElem hil)
    have n2 := navL_bytes (List.getElem?_eq_getElem hiq)
    have ia : ∀ (h : Heap) (id : Nat), indexAddrE E.P h 53 (.ptr id 0 0 [1] 1) (.v (.int .i64 (i : Nat))) = some (.ptr id 0 0 [1, i] (1 + i)) := fun h id => by
      have := ia_arr (P := E.P) (h := h) (t := 53) (id := id) (g := 0) (i := 0) (o := 1) (j := i) (p := [1]) und_53 sz_5 h16
      simpa using this
    have nv1 : nav p.av [1, i] (1 + i) = some (.v (.int .u8 (p.ad[i]).toNat)) := by
      simp [Pre.av, nav, navL, Zfv, bleE, n1]
    have nv2 : nav q.av [1, i] (1 + i) = some (.v (.int .u8 (q.ad[i]).toNat)) := by
      simp [Pre.av, nav, navL, Zfv, bleE, n2]
    rw [nums_cons hil, nums_cons hiq]
    by_cases h1 : ((p.ad[i]).toNat : Int) < (q.ad[i]).toNat
    · have he : ∃ fr', exec E (call E (n + 499)) (n + 499) 98 45 n0 (loopB Tryz.f98 0) ⟨[(2, .ptr ip 0 0 [] 0), (3, .ptr iq 0 0 [] 0), (5, .v (.int .i64 (i : Nat)))], H, [], []⟩ = some (.ret, ⟨fr', H, [], []⟩) ∧ AM.get fr' 4 = some (.v (.int .i64 (-1))) := by
        rw [exec_code]
        simp -implicitDefEqProofs only [simA, Nat.reduceAdd, Nat.reduceLT, Nat.reduceEqDiff, Nat.reduceLeDiff, Nat.reduceMul, Int.reduceBEq, Int.reduceBNe, Int.reduceLT, Int.reduceLE, Int.reduceAdd, Int.reduceSub, Int.reduceMul, Int.reduceNeg, Nat.reduceSub, Nat.reducePow, Nat.reduceDiv, Nat.reduceMod, fo_55_0, sz_4, agg_4, prs_98_8, fo_55_1, und_53, sz_5, agg_5, prs_98_10, fo_55_2, sz_3, agg_3, keep_98, E_masks, masks, rows_98, Tryz.f98, hi, rp, rq, ia, nv1, nv2, h1, pairsOK, clsOf, compat]
        exact ⟨_, rfl, rfl⟩
      obtain ⟨fr', he, hg⟩ := he
      refine ⟨fr', .inr ⟨loopN_retK hk he, ?_, ?_⟩⟩ <;> simp [lexI, h1, hg]
    · by_cases h2 : ((q.ad[i]).toNat : Int) < (p.ad[i]).toNat
      · have he : ∃ fr', exec E (call E (n + 499)) (n + 499) 98 45 n0 (loopB Tryz.f98 0) ⟨[(2, .ptr ip 0 0 [] 0), (3, .ptr iq 0 0 [] 0), (5, .v (.int .i64 (i : Nat)))], H, [], []⟩ = some (.ret, ⟨fr', H, [], []⟩) ∧ AM.get fr' 4 = some (.v (.int .i64 1)) := by
          rw [exec_code]
          simp -implicitDefEqProofs only [simA, Nat.reduceAdd, Nat.reduceLT, Nat.reduceEqDiff, Nat.reduceLeDiff, Nat.reduceMul, Int.reduceBEq, Int.reduceBNe, Int.reduceLT, Int.reduceLE, Int.reduceAdd, Int.reduceSub, Int.reduceMul, Int.reduceNeg, Nat.reduceSub, Nat.reducePow, Nat.reduceDiv, Nat.reduceMod, fo_55_0, sz_4, agg_4, prs_98_8, fo_55_1, und_53, sz_5, agg_5, prs_98_10, fo_55_2, sz_3, agg_3, keep_98, E_masks, masks, rows_98, Tryz.f98, hi, rp, rq, ia, nv1, nv2, h1, h2, pairsOK, clsOf, compat]
          exact ⟨_, rfl, rfl⟩
        obtain ⟨fr', he, hg⟩ := he
        refine ⟨fr', .inr ⟨loopN_retK hk he, ?_, ?_⟩⟩ <;> simp [lexI, h1, h2, hg]
      · have he : ∃ fr', exec E (call E (n + 499)) (n + 499) 98 45 n0 (loopB Tryz.f98 0) ⟨[(2, .ptr ip 0 0 [] 0), (3, .ptr iq 0 0 [] 0), (5, .v (.int .i64 (i : Nat)))], H, [], []⟩ = some (.normal, ⟨fr', H, [], []⟩) ∧ keepF (masks 98) fr' = [(2, .ptr ip 0 0 [] 0), (3, .ptr iq 0 0 [] 0), (5, .v (.int .i64 ((i + 1 : Nat) : Int)))] := by
          rw [exec_code]
          simp -implicitDefEqProofs only [simA, Nat.reduceAdd, Nat.reduceLT, Nat.reduceEqDiff, Nat.reduceLeDiff, Nat.reduceMul, Int.reduceBEq, Int.reduceBNe, Int.reduceLT, Int.reduceLE, Int.reduceAdd, Int.reduceSub, Int.reduceMul, Int.reduceNeg, Nat.reduceSub, Nat.reducePow, Nat.reduceDiv, Nat.reduceMod, fo_55_0, sz_4, agg_4, prs_98_8, fo_55_1, und_53, sz_5, agg_5, prs_98_10, fo_55_2, sz_3, agg_3, keep_98, E_masks, masks, rows_98, Tryz.f98, hi, rp, rq, ia, nv1, nv2, h1, h2, w1, pairsOK, clsOf, compat]
          exact ⟨_, rfl, rfl⟩
        obtain ⟨fr1, he, hk1⟩ := he
        obtain ⟨fr', g⟩ := ih (i + 1) j fr1 (by omega) (by omega) hk1
        refine ⟨fr', ?_⟩
        rw [loopN_stepK hk he]
        simpa only [lexI, h1, h2, if_false] using g

theorem c98 (n : Nat) (p q : Pre) (hp : p.ok) (hq : q.ok) (h : Heap) : call E (n + 500) 98 [p.av, q.av] h = some (.v (.int .i64 (cmpP p q)), h, ⟨[], [], true⟩) := by
  have l1 : leafsL (ofBytes p.ad) = 16 := by rw [leafs_ofBytes]; exact hp.1
  have l2 : leafsL (ofBytes q.ad) = 16 := by rw [leafs_ofBytes]; exact hq.1
  have hp1 : AM.leafs p.av = 18 := Pre.leafs hp
  have hq1 : AM.leafs q.av = 18 := Pre.leafs hq
  have tp : isTupA p.av = false := rfl
  have tq : isTupA q.av = false := rfl
  have n0p : nav p.av [0] 0 = some (.v (.bool p.six)) := by simp [Pre.av, nav, navL]
  have n0q : nav q.av [0] 0 = some (.v (.bool q.six)) := by simp [Pre.av, nav, navL]
  have n2p : nav p.av [2] 17 = some (.v (.int .i64 p.len)) := by simp [Pre.av, nav, navL, Zfv, Zfw, leafs_ofBytes, hp.1, bleE]
  have n2q : nav q.av [2] 17 = some (.v (.int .i64 q.len)) := by simp [Pre.av, nav, navL, Zfv, Zfw, leafs_ofBytes, hq.1, bleE]
  have hne : ∀ (ox oy : Operand) (a b : Bool), binE E.P .neq 4 ox oy (.v (.bool a)) (.v (.bool b)) = some (.v (.bool (a != b))) := fun ox oy a b => by cases a <;> cases b <;> rfl
  cases h1 : p.six <;> cases h2 : q.six
  case false.true =>
    have hcm : cmpP p q = -1 := by simp [cmpP, or3, h1, h2, kindI, cmpI]
    rw [h1] at n0p
    rw [h2] at n0q
    rw [hcm, call_at (E := E) (f := 98) (fn := Tryz.f98) rfl Tryz.func98 rfl (Nat.le_of_ble_eq_true rfl)]
    simp -implicitDefEqProofs only [simA, Nat.reduceAdd, Nat.reduceLT, Nat.reduceEqDiff, Nat.reduceLeDiff, Nat.reduceMul, Int.reduceBEq, Int.reduceBNe, Int.reduceLT, Int.reduceLE, Int.reduceAdd, Int.reduceSub, Int.reduceMul, Int.reduceNeg, Nat.reduceSub, Nat.reducePow, Nat.reduceDiv, Nat.reduceMod, fo_55_0, sz_4, agg_4, prs_98_8, fo_55_1, und_53, sz_5, agg_5, prs_98_10, fo_55_2, sz_3, agg_3, keep_98, E_masks, masks, rows_98, Tryz.f98, hp1, hq1, tp, tq, n0p, n0q, hne, Bool.bne_true, Bool.bne_false]
  case true.false =>
    have hcm : cmpP p q = 1 := by simp [cmpP, or3, h1, h2, kindI, cmpI]
    rw [h1] at n0p
    rw [h2] at n0q
    rw [hcm, call_at (E := E) (f := 98) (fn := Tryz.f98) rfl Tryz.func98 rfl (Nat.le_of_ble_eq_true rfl)]
    simp -implicitDefEqProofs only [simA, Nat.reduceAdd, Nat.reduceLT, Nat.reduceEqDiff, Nat.reduceLeDiff, Nat.reduceMul, Int.reduceBEq, Int.reduceBNe, Int.reduceLT, Int.reduceLE, Int.reduceAdd, Int.reduceSub, Int.reduceMul, Int.reduceNeg, Nat.reduceSub, Nat.reducePow, Nat.reduceDiv, Nat.reduceMod, fo_55_0, sz_4, agg_4, prs_98_8, fo_55_1, und_53, sz_5, agg_5, prs_98_10, fo_55_2, sz_3, agg_3, keep_98, E_masks, masks, rows_98, Tryz.f98, hp1, hq1, tp, tq, n0p, n0q, hne, Bool.bne_true, Bool.bne_false]
  all_goals
    have hcm : cmpP p q = or3 0 (lexI (nums p.ad) (nums q.ad)) (cmpI p.len q.len) := by
      rw [← cmpB_lex _ _ (by rw [hp.1, hq.1])]
      simp [cmpP, h1, h2, cmpI]
    rw [h1] at n0p
    rw [h2] at n0q
    obtain ⟨fr', ⟨g1, g2, g3, g4⟩ | ⟨g1, g2, g3⟩⟩ := loop98 n h.length h (h ++ [.row 18 0 [p.av] ⟨true, 55⟩, .row 18 0 [q.av] ⟨true, 55⟩]) p q h.length (h.length + 1) hp hq (by rw [end0]; rfl) (by rw [end1]; rfl) 16 0 (n + 499) [(2, .ptr h.length 0 0 [] 0), (3, .ptr (h.length + 1) 0 0 [] 0), (5, .v (.int .i64 0))] rfl (by omega) rfl
    · simp -implicitDefEqProofs only [simA, Nat.reduceAdd, Nat.reduceLT, Nat.reduceEqDiff, Nat.reduceLeDiff, Nat.reduceMul, Int.reduceBEq, Int.reduceBNe, Int.reduceLT, Int.reduceLE, Int.reduceAdd, Int.reduceSub, Int.reduceMul, Int.reduceNeg, Nat.reduceSub, Nat.reducePow, Nat.reduceDiv, Nat.reduceMod, fo_55_0, sz_4, agg_4, prs_98_8, fo_55_1, und_53, sz_5, agg_5, prs_98_10, fo_55_2, sz_3, agg_3, keep_98, E_masks, masks, rows_98, Tryz.f98] at g1
      simp only [List.drop_zero] at g4
      by_cases h3 : p.len < q.len
      · have : cmpP p q = -1 := by rw [hcm, g4]; simp [or3, cmpI, h3]
        rw [this, call_at (E := E) (f := 98) (fn := Tryz.f98) rfl Tryz.func98 rfl (Nat.le_of_ble_eq_true rfl)]
        simp -implicitDefEqProofs only [simA, Nat.reduceAdd, Nat.reduceLT, Nat.reduceEqDiff, Nat.reduceLeDiff, Nat.reduceMul, Int.reduceBEq, Int.reduceBNe, Int.reduceLT, Int.reduceLE, Int.reduceAdd, Int.reduceSub, Int.reduceMul, Int.reduceNeg, Nat.reduceSub, Nat.reducePow, Nat.reduceDiv, Nat.reduceMod, fo_55_0, sz_4, agg_4, prs_98_8, fo_55_1, und_53, sz_5, agg_5, prs_98_10, fo_55_2, sz_3, agg_3, keep_98, E_masks, masks, rows_98, Tryz.f98, hp1, hq1, tp, tq, n0p, n0q, n2p, n2q, hne, Bool.bne_true, Bool.bne_false, g1, g2, g3, h3]
      · by_cases h4 : q.len < p.len
        · have : cmpP p q = 1 := by rw [hcm, g4]; simp [or3, cmpI, h3, h4]
          rw [this, call_at (E := E) (f := 98) (fn := Tryz.f98) rfl Tryz.func98 rfl (Nat.le_of_ble_eq_true rfl)]
          simp -implicitDefEqProofs only [simA, Nat.reduceAdd, Nat.reduceLT, Nat.reduceEqDiff, Nat.reduceLeDiff, Nat.reduceMul, Int.reduceBEq, Int.reduceBNe, Int.reduceLT, Int.reduceLE, Int.reduceAdd, Int.reduceSub, Int.reduceMul, Int.reduceNeg, Nat.reduceSub, Nat.reducePow, Nat.reduceDiv, Nat.reduceMod, fo_55_0, sz_4, agg_4, prs_98_8, fo_55_1, und_53, sz_5, agg_5, prs_98_10, fo_55_2, sz_3, agg_3, keep_98, E_masks, masks, rows_98, Tryz.f98, hp1, hq1, tp, tq, n0p, n0q, n2p, n2q, hne, Bool.bne_true, Bool.bne_false, g1, g2, g3, h3, h4]
        · have : cmpP p q = 0 := by rw [hcm, g4]; simp [or3, cmpI, h3, h4]
          rw [this, call_at (E := E) (f := 98) (fn := Tryz.f98) rfl Tryz.func98 rfl (Nat.le_of_ble_eq_true rfl)]
          simp -implicitDefEqProofs only [simA, Nat.reduceAdd, Nat.reduceLT, Nat.reduceEqDiff, Nat.reduceLeDiff, Nat.reduceMul, Int.reduceBEq, Int.reduceBNe, Int.reduceLT, Int.reduceLE, Int.reduceAdd, Int.reduceSub, Int.reduceMul, Int.reduceNeg, Nat.reduceSub, Nat.reducePow, Nat.reduceDiv, Nat.reduceMod, fo_55_0, sz_4, agg_4, prs_98_8, fo_55_1, und_53, sz_5, agg_5, prs_98_10, fo_55_2, sz_3, agg_3, keep_98, E_masks, masks, rows_98, Tryz.f98, hp1, hq1, tp, tq, n0p, n0q, n2p, n2q, hne, Bool.bne_true, Bool.bne_false, g1, g2, g3, h3, h4]
    · simp -implicitDefEqProofs only [simA, Nat.reduceAdd, Nat.reduceLT, Nat.reduceEqDiff, Nat.reduceLeDiff, Nat.reduceMul, Int.reduceBEq, Int.reduceBNe, Int.reduceLT, Int.reduceLE, Int.reduceAdd, Int.reduceSub, Int.reduceMul, Int.reduceNeg, Nat.reduceSub, Nat.reducePow, Nat.reduceDiv, Nat.reduceMod, fo_55_0, sz_4, agg_4, prs_98_8, fo_55_1, und_53, sz_5, agg_5, prs_98_10, fo_55_2, sz_3, agg_3, keep_98, E_masks, masks, rows_98, Tryz.f98] at g1
      simp only [List.drop_zero] at g2 g3
      have : cmpP p q = lexI (nums p.ad) (nums q.ad) := by rw [hcm]; simp [or3, g3]
      rw [this, call_at (E := E) (f := 98) (fn := Tryz.f98) rfl Tryz.func98 rfl (Nat.le_of_ble_eq_true rfl)]
      simp -implicitDefEqProofs only [simA, Nat.reduceAdd, Nat.reduceLT, Nat.reduceEqDiff, Nat.reduceLeDiff, Nat.reduceMul, Int.reduceBEq, Int.reduceBNe, Int.reduceLT, Int.reduceLE, Int.reduceAdd, Int.reduceSub, Int.reduceMul, Int.reduceNeg, Nat.reduceSub, Nat.reducePow, Nat.reduceDiv, Nat.reduceMod, fo_55_0, sz_4, agg_4, prs_98_8, fo_55_1, und_53, sz_5, agg_5, prs_98_10, fo_55_2, sz_3, agg_3, keep_98, E_masks, masks, rows_98, Tryz.f98, hp1, hq1, tp, tq, n0p, n0q, hne, Bool.bne_true, Bool.bne_false, g1, g2]

end Go.Proofs.YtobdjegooonklaaGreat

set_option linter.unusedSimpArgs false
set_option linter.unusedVariables false
set_option maxRecDepth 100000
set_option maxHeartbeats 1000000
namespace Go.Proofs.YtobdjegooonklaaGreat
open Go Go.AM

theorem round60 (n n0 : Nat) (H : Heap) (x : AV) (all : List Route) (p : Pre) (bid : Nat) (hp : p.ok) (hbx : H[bid]? = some (.row 18 0 [p.av] ⟨true, 55⟩)) (hok : ∀ i ∈ all, i.ok) (s : RV H x all) (hbig : all.length < 490) (rest pre : List Route) (a : Route) (hl : pre ++ a :: rest = all) :
    ∃ fr', (a.to = p ∧ exec E (call E (n + 499)) (n + 499) 60 20 n0 (loopB Tryz.f60 0) ⟨[(0, x), (3, .ptr bid 0 0 [] 0), (5, .v (.int .i64 (pre.length : Nat)))], H, [], []⟩ = some (.ret, ⟨fr', H, [], []⟩) ∧ AM.get fr' 4 = some (.v (.int .i64 (pre.length : Nat)))) ∨
      (a.to ≠ p ∧ exec E (call E (n + 499)) (n + 499) 60 20 n0 (loopB Tryz.f60 0) ⟨[(0, x), (3, .ptr bid 0 0 [] 0), (5, .v (.int .i64 (pre.length : Nat)))], H, [], []⟩ = some (.normal, ⟨fr', H, [], []⟩) ∧ keepF (masks 60) fr' = [(0, x), (3, .ptr bid 0 0 [] 0), (5, .v (.int .i64 ((pre.length + 1 : Nat) : Int)))]) := by
  have hi : ((pre.length : Int) < all.length) := by rw [← hl]; simp; omega
  have hlen := s.len
  have ha0 : a.ok := hok a (by rw [← hl]; simp)
  have ga : all[pre.length]? = some a := by rw [← hl]; simp
  have hpl : pre.length < 490 := by rw [← hl] at hbig; simp at hbig; omega
  have w2 := wrapN1 (n := pre.length) (by omega)
  have la : AM.leafs a.to.av = 18 := Pre.leafs ha0.1
  have lp : AM.leafs p.av = 18 := Pre.leafs hp
  have ia : isAggA a.to.av = true := rfl
  have ip : isAggA p.av = true := rfl
  have heq := fun ox oy => eq55 (ox := ox) (oy := oy) ha0.1 hp
  rcases s with ⟨rfl, rfl⟩ | ⟨b', rfl⟩ | ⟨id, g, els, ex, rfl, hr, ht⟩
  · simp at hl
  · have ha1 := lit_at (h := H) (b := b') ga
    by_cases hab : a.to = p
    · have hd : decide (a.to = p) = true := decide_eq_true hab
      simp only [hab, ne_eq, not_true_eq_false, false_and, or_false, true_and]
      rw [exec_code]
      simp -implicitDefEqProofs only [simA, Nat.reduceAdd, Nat.reduceLT, Nat.reduceEqDiff, Nat.reduceLeDiff, Nat.reduceMul, Int.reduceBEq, Int.reduceBNe, Int.reduceLT, Int.reduceLE, Int.reduceAdd, Int.reduceSub, Int.reduceMul, Int.reduceNeg, Nat.reduceSub, Nat.reducePow, Nat.reduceDiv, Nat.reduceMod, ln_36, prs_60_4, und_36, sz_58, fo_58_0, sz_55, agg_55, keep_60, E_masks, masks, rows_60, Tryz.f60, hi, hlen, w2, ha1, hbx, la, lp, ia, ip, heq, hd, route_nav, Route.av, pairsOK, clsOf, compat]
      exact ⟨_, rfl, rfl⟩
    · have hd : decide (a.to = p) = false := decide_eq_false hab
      simp only [hab, ne_eq, not_false_eq_true, false_and, false_or, true_and]
      rw [exec_code]
      simp -implicitDefEqProofs only [simA, Nat.reduceAdd, Nat.reduceLT, Nat.reduceEqDiff, Nat.reduceLeDiff, Nat.reduceMul, Int.reduceBEq, Int.reduceBNe, Int.reduceLT, Int.reduceLE, Int.reduceAdd, Int.reduceSub, Int.reduceMul, Int.reduceNeg, Nat.reduceSub, Nat.reducePow, Nat.reduceDiv, Nat.reduceMod, ln_36, prs_60_4, und_36, sz_58, fo_58_0, sz_55, agg_55, keep_60, E_masks, masks, rows_60, Tryz.f60, hi, hlen, w2, ha1, hbx, la, lp, ia, ip, heq, hd, route_nav, Route.av, pairsOK, clsOf, compat]
      exact ⟨_, rfl, rfl⟩
  · obtain ⟨ha1, ha2⟩ := sl_at hr ht ga
    by_cases hab : a.to = p
    · have hd : decide (a.to = p) = true := decide_eq_true hab
      simp only [hab, ne_eq, not_true_eq_false, false_and, or_false, true_and]
      rw [exec_code]
      simp -implicitDefEqProofs only [simA, Nat.reduceAdd, Nat.reduceLT, Nat.reduceEqDiff, Nat.reduceLeDiff, Nat.reduceMul, Int.reduceBEq, Int.reduceBNe, Int.reduceLT, Int.reduceLE, Int.reduceAdd, Int.reduceSub, Int.reduceMul, Int.reduceNeg, Nat.reduceSub, Nat.reducePow, Nat.reduceDiv, Nat.reduceMod, ln_36, prs_60_4, und_36, sz_58, fo_58_0, sz_55, agg_55, keep_60, E_masks, masks, rows_60, Tryz.f60, hi, hlen, w2, ha1, ha2, hr, hbx, la, lp, ia, ip, heq, hd, route_nav, pairsOK, clsOf, compat]
      exact ⟨_, rfl, rfl⟩
    · have hd : decide (a.to = p) = false := decide_eq_false hab
      simp only [hab, ne_eq, not_false_eq_true, false_and, false_or, true_and]
      rw [exec_code]
      simp -implicitDefEqProofs only [simA, Nat.reduceAdd, Nat.reduceLT, Nat.reduceEqDiff, Nat.reduceLeDiff, Nat.reduceMul, Int.reduceBEq, Int.reduceBNe, Int.reduceLT, Int.reduceLE, Int.reduceAdd, Int.reduceSub, Int.reduceMul, Int.reduceNeg, Nat.reduceSub, Nat.reducePow, Nat.reduceDiv, Nat.reduceMod, ln_36, prs_60_4, und_36, sz_58, fo_58_0, sz_55, agg_55, keep_60, E_masks, masks, rows_60, Tryz.f60, hi, hlen, w2, ha1, ha2, hr, hbx, la, lp, ia, ip, heq, hd, route_nav, pairsOK, clsOf, compat]
      exact ⟨_, rfl, rfl⟩

theorem loop60 (n n0 : Nat) (H : Heap) (x : AV) (all : List Route) (p : Pre) (bid : Nat) (hp : p.ok) (hbx : H[bid]? = some (.row 18 0 [p.av] ⟨true, 55⟩)) (hok : ∀ i ∈ all, i.ok) (s : RV H x all) (hbig : all.length < 490) : ∀ (rest pre : List Route) (j : Nat) (fr : FR), pre ++ rest = all → rest.length < j → keepF (masks 60) fr = [(0, x), (3, .ptr bid 0 0 [] 0), (5, .v (.int .i64 (pre.length : Nat)))] →
    ∃ fr', (loopN (exec E (call E (n + 499)) (n + 499) 60 20 n0 (loopB Tryz.f60 0)) (masks 60) j ⟨fr, H, [], []⟩ = some (.exit 0, ⟨fr', H, [], []⟩) ∧ (∀ r ∈ rest, r.to ≠ p)) ∨
      ∃ (k : Nat) (r : Route), loopN (exec E (call E (n + 499)) (n + 499) 60 20 n0 (loopB Tryz.f60 0)) (masks 60) j ⟨fr, H, [], []⟩ = some (.ret, ⟨fr', H, [], []⟩) ∧ AM.get fr' 4 = some (.v (.int .i64 (k : Nat))) ∧ all[k]? = some r ∧ r.to = p
  | [], pre, j, fr, hl, hj, hk => by
    obtain ⟨j, rfl⟩ : ∃ i, j = i + 1 := ⟨j - 1, by simp at hj; omega⟩
    have hi : ¬ ((pre.length : Int) < all.length) := by rw [← hl]; simp
    have hlen := s.len
    have he : ∃ fr', exec E (call E (n + 499)) (n + 499) 60 20 n0 (loopB Tryz.f60 0) ⟨[(0, x), (3, .ptr bid 0 0 [] 0), (5, .v (.int .i64 (pre.length : Nat)))], H, [], []⟩ = some (.exit 0, ⟨fr', H, [], []⟩) := by
      rw [exec_code]
      simp -implicitDefEqProofs only [simA, Nat.reduceAdd, Nat.reduceLT, Nat.reduceEqDiff, Nat.reduceLeDiff, Nat.reduceMul, Int.reduceBEq, Int.reduceBNe, Int.reduceLT, Int.reduceLE, Int.reduceAdd, Int.reduceSub, Int.reduceMul, Int.reduceNeg, Nat.reduceSub, Nat.reducePow, Nat.reduceDiv, Nat.reduceMod, ln_36, prs_60_4, und_36, sz_58, fo_58_0, sz_55, agg_55, keep_60, E_masks, masks, rows_60, Tryz.f60, hi, hlen]
      exact ⟨_, rfl⟩
    obtain ⟨fr', he⟩ := he
    exact ⟨fr', .inl ⟨loopN_outK hk he, by simp⟩⟩
  | a :: rest, pre, j, fr, hl, hj, hk => by
    obtain ⟨j, rfl⟩ : ∃ i, j = i + 1 := ⟨j - 1, by simp at hj; omega⟩
    obtain ⟨fr1, ⟨hab, he, hg⟩ | ⟨hab, he, hk1⟩⟩ := round60 n n0 H x all p bid hp hbx hok s hbig rest pre a hl
    · exact ⟨fr1, .inr ⟨pre.length, a, loopN_retK hk he, hg, by rw [← hl]; simp, hab⟩⟩
    · obtain ⟨fr', g⟩ := loop60 n n0 H x all p bid hp hbx hok s hbig rest (pre ++ [a]) j fr1 (by rw [← hl]; simp) (by simp at hj; omega) (by rw [hk1]; simp)
      refine ⟨fr', ?_⟩
      rw [loopN_stepK hk he]
      simpa [hab] using g

/-- Where the reference finds a prefix. -/
def findT (l : List Route) (p : Pre) : Int := if has l p = true then (pos l p : Nat) else -1

theorem c60f (n : Nat) (h : Heap) (x : AV) (l : List Route) (p : Pre) (hp : p.ok) (hok : ∀ i ∈ l, i.ok) (s : RV h x l) (hbig : l.length < 490) (hs : Sorted l) :
    call E (n + 500) 60 [x, p.av] h = some (.v (.int .i64 (findT l p)), h, ⟨[], [], true⟩) := by
  have lp : AM.leafs p.av = 18 := Pre.leafs hp
  have tp : isTupA p.av = false := rfl
  obtain ⟨fr', ⟨g1, g2⟩ | ⟨k, r, g1, g2, g3, g4⟩⟩ := loop60 n h.length (h ++ [.row 18 0 [p.av] ⟨true, 55⟩]) x l p h.length hp (by rw [end0]; rfl) hok (s.push _) hbig l [] (n + 499) [(0, x), (3, .ptr h.length 0 0 [] 0), (5, .v (.int .i64 0))] rfl (by omega) rfl
  · have hh : has l p = false := by
      cases hh : has l p with
      | false => rfl
      | true =>
        obtain ⟨r, h1, h2⟩ := has_some hok hp hh
        exact (g2 r (List.mem_of_getElem? h1) h2).elim
    simp -implicitDefEqProofs only [simA, Nat.reduceAdd, Nat.reduceLT, Nat.reduceEqDiff, Nat.reduceLeDiff, Nat.reduceMul, Int.reduceBEq, Int.reduceBNe, Int.reduceLT, Int.reduceLE, Int.reduceAdd, Int.reduceSub, Int.reduceMul, Int.reduceNeg, Nat.reduceSub, Nat.reducePow, Nat.reduceDiv, Nat.reduceMod, ln_36, prs_60_4, und_36, sz_58, fo_58_0, sz_55, agg_55, keep_60, E_masks, masks, rows_60, Tryz.f60] at g1
    have hf : findT l p = -1 := by simp [findT, hh]
    rw [hf, call_at (E := E) (f := 60) (fn := Tryz.f60) rfl Tryz.func60 rfl (Nat.le_of_ble_eq_true rfl)]
    simp -implicitDefEqProofs only [simA, Nat.reduceAdd, Nat.reduceLT, Nat.reduceEqDiff, Nat.reduceLeDiff, Nat.reduceMul, Int.reduceBEq, Int.reduceBNe, Int.reduceLT, Int.reduceLE, Int.reduceAdd, Int.reduceSub, Int.reduceMul, Int.reduceNeg, Nat.reduceSub, Nat.reducePow, Nat.reduceDiv, Nat.reduceMod, ln_36, prs_60_4, und_36, sz_58, fo_58_0, sz_55, agg_55, keep_60, E_masks, masks, rows_60, Tryz.f60, lp, tp, g1]
  · obtain ⟨h1, h2⟩ := pos_of_at hs hok g3 g4
    simp -implicitDefEqProofs only [simA, Nat.reduceAdd, Nat.reduceLT, Nat.reduceEqDiff, Nat.reduceLeDiff, Nat.reduceMul, Int.reduceBEq, Int.reduceBNe, Int.reduceLT, Int.reduceLE, Int.reduceAdd, Int.reduceSub, Int.reduceMul, Int.reduceNeg, Nat.reduceSub, Nat.reducePow, Nat.reduceDiv, Nat.reduceMod, ln_36, prs_60_4, und_36, sz_58, fo_58_0, sz_55, agg_55, keep_60, E_masks, masks, rows_60, Tryz.f60] at g1
    have hf : findT l p = (k : Nat) := by simp [findT, h2, h1]
    rw [hf, call_at (E := E) (f := 60) (fn := Tryz.f60) rfl Tryz.func60 rfl (Nat.le_of_ble_eq_true rfl)]
    simp -implicitDefEqProofs only [simA, Nat.reduceAdd, Nat.reduceLT, Nat.reduceEqDiff, Nat.reduceLeDiff, Nat.reduceMul, Int.reduceBEq, Int.reduceBNe, Int.reduceLT, Int.reduceLE, Int.reduceAdd, Int.reduceSub, Int.reduceMul, Int.reduceNeg, Nat.reduceSub, Nat.reducePow, Nat.reduceDiv, Nat.reduceMod, ln_36, prs_60_4, und_36, sz_58, fo_58_0, sz_55, agg_55, keep_60, E_masks, masks, rows_60, Tryz.f60, lp, tp, g1, g2]

end Go.Proofs.YtobdjegooonklaaGreat

set_option linter.unusedSimpArgs false
set_option linter.unusedVariables false
set_option maxRecDepth 100000
set_option maxHeartbeats 1000000
namespace Go.Proofs.YtobdjegooonklaaGreat
open Go Go.AM

/-- A route among others, where the first bigger one stands. -/
def insW (r : Route) : Bool → List Route → List Route × Bool
  | b, [] => ([], b)
  | b, a :: l => if b = false ∧ cmpP r.to a.to < 0 then (r :: a :: (insW r true l).1, (insW r true l).2) else (a :: (insW r b l).1, (insW r b l).2)
def insF (r : Route) (l : List Route) : List Route := if (insW r false l).2 = true then (insW r false l).1 else (insW r false l).1 ++ [r]

theorem insW_true (r : Route) : ∀ l : List Route, insW r true l = (l, true)
  | [] => rfl
  | a :: l => by simp [insW, insW_true r l]
theorem insF_eq {r : Route} (hr : r.ok) : ∀ {l : List Route}, (∀ q ∈ l, q.ok) → has l r.to = false → insF r l = insAt l (pos l r.to) r
  | [], _, _ => by simp [insF, insW, insAt, pos]
  | a :: l, ho, hh => by
    have oa := (ho a (List.mem_cons_self ..)).1.1
    have hn := cmpP_neg (p := a.to) (q := r.to) oa hr.1.1
    by_cases hlt : cmpP a.to r.to < 0
    · have hp : pos (a :: l) r.to = pos l r.to + 1 := by rw [pos_cons, if_pos (show cmpAt r.to a < 0 from hlt)]
      have hh' : has l r.to = false := by
        unfold has at hh ⊢
        rw [hp, List.getElem?_cons_succ] at hh
        exact hh
      have ih := insF_eq hr (fun q hq => ho q (List.mem_cons_of_mem _ hq)) hh'
      have hge : ¬ cmpP r.to a.to < 0 := by omega
      have hw : insW r false (a :: l) = (a :: (insW r false l).1, (insW r false l).2) := by simp [insW, hge]
      unfold insF at ih ⊢
      rw [hw, hp]
      simp only [insAt, List.take_succ_cons, List.drop_succ_cons, List.cons_append]
      unfold insAt at ih
      rw [← ih]
      split <;> simp
    · have hp : pos (a :: l) r.to = 0 := by rw [pos_cons, if_neg (show ¬ cmpAt r.to a < 0 from hlt)]
      have hz : cmpP a.to r.to ≠ 0 := by
        intro hz
        unfold has at hh
        rw [hp] at hh
        simp [cmpAt, hz] at hh
      have hlt2 : cmpP r.to a.to < 0 := by omega
      unfold insF
      rw [hp]
      simp [insW, hlt2, insW_true, insAt]

theorem insW_len (r : Route) : ∀ (b : Bool) (l : List Route), (insW r b l).1.length ≤ l.length + 1 ∧ (b = true → (insW r b l).1.length = l.length)
  | b, [] => by simp [insW]
  | b, a :: l => by
    obtain ⟨h1, h2⟩ := insW_len r b l
    simp only [insW]
    split
    · simp [insW_true]
      rename_i hc
      simp [hc.1]
    · simp only [List.length_cons]
      exact ⟨by omega, fun hb => by rw [h2 hb]⟩
theorem tl_hi {h : Heap} {id gen n : Nat} {els : List AV} {ex : Tag} {q : Nat} (hr : h[id]? = some (.row 20 gen els ex)) (hq : q ≤ n) (hn : n ≤ els.length) : sliceE E.P h 36 (.sl id gen 0 n) none (some (.v (.int .i64 q))) none = some (.sl id gen 0 q) := by
  have h1 : (q : Int) ≤ n := by omega
  have h2 : q ≤ els.length := by omega
  have h3 : (q : Int) ≤ els.length := by omega
  simp [sliceE, und_36, sz_58, hr, bound, h1, h2, h3]
theorem tl_from {h : Heap} {id gen n : Nat} {els : List AV} {ex : Tag} {q : Nat} (hr : h[id]? = some (.row 20 gen els ex)) (hq : q ≤ n) : sliceE E.P h 36 (.sl id gen 0 n) (some (.v (.int .i64 q))) none none = some (.sl id gen q (n - q)) := by
  have h1 : (q : Int) ≤ n := by omega
  simp [sliceE, und_36, sz_58, hr, bound, h1]
theorem lit_hi {h : Heap} {b : Bool} {l : List Route} {q : Nat} (hq : q ≤ l.length) : ∃ b', sliceE E.P h 36 (.lit 20 b (l.map Route.av)) none (some (.v (.int .i64 (q : Nat)))) none = some (.lit 20 b' ((l.take q).map Route.av)) := by
  have h1 : (q : Int) ≤ l.length := by omega
  exact ⟨_, by simp [sliceE, und_36, sz_58, bound, h1, List.map_take]; rfl⟩
theorem lit_lo {h : Heap} {b : Bool} {l : List Route} {q : Nat} (hq : q ≤ l.length) : ∃ b', sliceE E.P h 36 (.lit 20 b (l.map Route.av)) (some (.v (.int .i64 (q : Nat)))) none none = some (.lit 20 b' ((l.drop q).map Route.av)) := by
  have h1 : (q : Int) ≤ l.length := by omega
  exact ⟨_, by simp [sliceE, und_36, sz_58, bound, h1, List.map_drop, List.take_of_length_le]; rfl⟩

end Go.Proofs.YtobdjegooonklaaGreat
