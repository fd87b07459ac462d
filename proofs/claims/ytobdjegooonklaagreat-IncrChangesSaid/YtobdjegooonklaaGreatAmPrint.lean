/- What incr.Print writes. Conditions: none. -/
import Derived.Test.YtobdjegooonklaaGreatAmIncr
import Derived.Test.YtobdjegooonklaaGreatAmWriter
set_option linter.unusedSimpArgs false
set_option linter.unusedVariables false
namespace Go.Proofs.YtobdjegooonklaaGreat
open Go Go.AM

def incB (i : Inc) : List UInt8 := UInt8.ofNat i.kind.toNat :: preB i.r.to ++ (if i.kind = 3 then [] else num i.r.metric.toNat ++ num i.r.seq.toNat)
def printB (l : List Inc) : List UInt8 := num l.length ++ l.flatMap incB

theorem may_facts {i : Inc} (hi : i.ok) (hm : may i = true) : (i.kind = 1 ∨ i.kind = 2 ∨ i.kind = 3) ∧ right i.r.to = true ∧ 0 ≤ i.r.metric ∧ i.r.metric < 65535 := by
  unfold may at hm
  split at hm
  · rename_i hk
    simp only [rightR, Bool.and_eq_true, decide_eq_true_eq] at hm
    exact ⟨by omega, hm.1, hm.2.1, hm.2.2⟩
  · split at hm
    · rename_i hk
      simp only [Bool.and_eq_true, decide_eq_true_eq] at hm
      have := congrArg Route.metric hm.2
      simp only [bare] at this
      exact ⟨by omega, hm.1, by omega, by omega⟩
    · cases hm

theorem num_len : ∀ (k m : Nat), m < 128 ^ (k + 1) → (num m).length ≤ k + 1
  | 0, m, h => by rw [num_small (by simpa using h)]; simp
  | k + 1, m, h => by
    by_cases hm : m < 128
    · rw [num_small hm]; simp
    · rw [num_big (by omega)]
      have := num_len k (m / 128) (by rw [Nat.pow_succ] at h; omega)
      simp; omega

theorem round11 (n : Nat) (h0 H : Heap) (x : AV) (all : List Inc) (i : Inc) (j : Nat) (bs : List UInt8) (s : SlV h0 21 x (all.map Inc.av)) (hold : ∀ id, id < h0.length → H[id]? = h0[id]?) (hj : all[j]? = some i) (hi : i.ok) (hm : may i = true) (w : WR h0.length H h0.length bs) (hbig : all.length < 500) (hbs : bs.length < 80000000) :
    ∃ fr H', exec E (call E (n + 507)) (n + 507) 11 56 h0.length (loopB Tryz.f11 0) ⟨[(4, .ptr h0.length 0 0 [] 0), (21, x), (22, .v (.int .i64 all.length)), (23, .v (.int .i64 j))], H, [], []⟩ = some (.normal, ⟨fr, H', [], []⟩) ∧
      keepF (masks 11) fr = [(4, .ptr h0.length 0 0 [] 0), (21, x), (22, .v (.int .i64 all.length)), (23, .v (.int .i64 ((j + 1 : Nat) : Int)))] ∧ WR h0.length H' h0.length (bs ++ incB i) ∧ (∀ id, id < h0.length → H'[id]? = h0[id]?) := by
  obtain ⟨hk, hr, hm0, hm1⟩ := may_facts hi hm
  have hjl : j < all.length := (List.getElem?_eq_some_iff.1 hj).1
  have hjl2 : (j : Int) < all.length := by omega
  have hlt := w.lt
  obtain ⟨a, ha1, ha2⟩ := (s.stay hold).at (t := 22) (e := 60) und_22 sz_60 (j := j) (y := i.av) (by simp [hj])
  have hseq := hi.2.2.2
  -- the heap with the round's variable
  obtain ⟨H1, hH1⟩ : ∃ H1, H1 = H ++ [Row.row 21 0 [i.av] ⟨true, 60⟩] := ⟨_, rfl⟩
  have w1 : WR h0.length H1 h0.length bs := by
    obtain ⟨q1, addr, buf, q2, q3⟩ := w
    refine ⟨q1, addr, buf, by rw [hH1, app_get hlt]; exact q2, q3.imp_right ?_⟩
    rintro ⟨q4, bid, gen, tag, q5, q6, q7⟩
    exact ⟨q4, bid, gen, tag, q5, by rw [hH1, app_get (List.getElem?_eq_some_iff.1 q6).1]; exact q6, q7⟩
  have hrow1 : H1[H.length]? = some (Row.row 21 0 [i.av] ⟨true, 60⟩) := by rw [hH1, end0]; rfl
  have hne : H.length ≠ h0.length := by omega
  obtain ⟨hA, dA, cA, wA, fA⟩ := c29 (n + 4) h0.length H1 h0.length bs (UInt8.ofNat i.kind.toNat) w1 (by omega)
  have hrowA := (fA.keep _ _ _ _ _ hrow1 (by omega) hne).trans hrow1
  have hpre : (preB i.r.to).length ≤ 20 := by simp [preB]; have := right_le hr; have := width_le i.r.to.six; omega
  obtain ⟨hB, dB, lB, cB, wB, fB⟩ := c30 (n + 4) h0.length hA h0.length _ (preB i.r.to) wA (by simp; omega)
  have hrowB := (fB.keep _ _ _ _ _ hrowA (by omega) hne).trans hrowA
  obtain ⟨hC, dC, cC, wC, fC⟩ := c28 (n + 3) h0.length hB h0.length i.r.metric.toNat _ wB (by simp; omega) (by omega)
  have hrowC := (fC.keep _ _ _ _ _ hrowB (by omega) hne).trans hrowB
  have hnum := num_len 9 i.r.metric.toNat (by omega)
  obtain ⟨hD, dD, cD, wD, fD⟩ := c28 (n + 3) h0.length hC h0.length i.r.seq.toNat _ wC (by simp; omega) (by omega)
  simp only [Nat.add_assoc, Nat.reduceAdd] at cA cB cC cD
  have hnl : ¬ H.length < h0.length := by omega
  have idf : idfree i.av = true := by simp [Inc.av, Route.av, Pre.av, idfree, idfreeL, Zfu]
  have mA : mergeLt h0.length dA [] = [] := mergeLt_ge fA.dge
  have mB : mergeLt h0.length dB [] = [] := mergeLt_ge fB.dge
  have mC : mergeLt h0.length dC [] = [] := mergeLt_ge fC.dge
  have mD : mergeLt h0.length dD [] = [] := mergeLt_ge fD.dge
  have mB2 : mergeLt h0.length lB [] = [] := mergeLt_ge (by rcases fB.how with h | ⟨h, _⟩ <;> rw [h] <;> simp)
  have hkb : IntKind.u8.wrap i.kind = ((UInt8.ofNat i.kind.toNat).toNat : Int) := by rcases hk with h | h | h <;> rw [h] <;> rfl
  have hmw : IntKind.u64.wrap i.r.metric = ((i.r.metric.toNat : Nat) : Int) := by rw [wrap_u64 (by omega) (by omega)]; omega
  have hsw : IntKind.u64.wrap i.r.seq = ((i.r.seq.toNat : Nat) : Int) := by rw [wrap_u64 (by omega) (by omega)]; omega
  have hil : AM.leafs i.av = 21 := Inc.leafs hi
  have hia : isAggA i.av = true := rfl
  have hit : isTupA i.av = false := rfl
  have hpl : AM.leafs i.r.to.av = 18 := Pre.leafs hi.2.1
  have hpa : isAggA i.r.to.av = true := rfl
  have hz' : leafsL (List.replicate 16 (AV.v (.int .u8 0))) = 16 := by kernel_rfl
  have n0 : nav i.av [0] 0 = some (.v (.int .i64 i.kind)) := by simp [Inc.av, nav, navL]
  have n1 : nav i.av [1, 0] 1 = some i.r.to.av := by simp [Inc.av, Route.av, nav, navL, Zfv, bleE]
  have n2 : nav i.av [1, 1] 19 = some (.v (.int .i64 i.r.metric)) := by simp [Inc.av, Route.av, nav, navL, Zfv, bleE, hpl]
  have n3 : nav i.av [1, 2] 20 = some (.v (.int .u32 i.r.seq)) := by simp [Inc.av, Route.av, nav, navL, Zfv, bleE, hpl]
  have hw1 := wrapN1 (n := j) (by omega)
  have c31' := fun n h => c31 n h i.r.to hi.2.1 hr
  have oldH1 : ∀ id, id < h0.length → H1[id]? = h0[id]? := fun id h => by rw [hH1, app_get (by omega), hold id h]
  have oldA := fun id h => (fA.old id h).trans (oldH1 id h)
  have oldB := fun id h => (fB.old id h).trans (oldA id h)
  have oldC := fun id h => (fC.old id h).trans (oldB id h)
  have oldD := fun id h => (fD.old id h).trans (oldC id h)
  rw [exec_code]
  by_cases h3 : i.kind = 3
  · have e3 : (i.kind != 3) = false := by simp [h3]
    simp -implicitDefEqProofs only [simA, Nat.reduceAdd, Nat.reduceLT, Nat.reduceEqDiff, Nat.reduceLeDiff, Nat.reduceMul, Int.reduceBEq, Int.reduceBNe, Int.reduceLT, Int.reduceLE, Int.reduceAdd, Int.reduceSub, Int.reduceMul, Int.reduceNeg, Nat.reduceSub, Nat.reducePow, Nat.reduceDiv, Nat.reduceMod, ln_22, bd_69, cv_3_71, und_22, sz_60, agg_60, zero_60, fo_60_0, sz_3, agg_3, cv_3_5, fo_60_1, fo_58_0, sz_55, agg_55, fo_58_1, fo_58_2, sz_56, agg_56, cv_56_71, keep_11, E_masks, masks, rows_11, Tryz.f11, hjl2, hnl, idf, ha1, ha2, hil, hia, hit, hz', storeE, ← hH1, hrow1, hrowA, hrowB, n0, n1, n2, n3, hkb, cA, c31', cB, mA, mB, mB2, hpl, hpa, e3, hw1]

    refine ⟨_, _, rfl, rfl, ?_, oldB⟩
    have : bs ++ incB i = bs ++ [UInt8.ofNat i.kind.toNat] ++ preB i.r.to := by simp [incB, h3]
    rw [this]
    exact wB
  · have e3 : (i.kind != 3) = true := by simp [h3]
    simp -implicitDefEqProofs only [simA, Nat.reduceAdd, Nat.reduceLT, Nat.reduceEqDiff, Nat.reduceLeDiff, Nat.reduceMul, Int.reduceBEq, Int.reduceBNe, Int.reduceLT, Int.reduceLE, Int.reduceAdd, Int.reduceSub, Int.reduceMul, Int.reduceNeg, Nat.reduceSub, Nat.reducePow, Nat.reduceDiv, Nat.reduceMod, ln_22, bd_69, cv_3_71, und_22, sz_60, agg_60, zero_60, fo_60_0, sz_3, agg_3, cv_3_5, fo_60_1, fo_58_0, sz_55, agg_55, fo_58_1, fo_58_2, sz_56, agg_56, cv_56_71, keep_11, E_masks, masks, rows_11, Tryz.f11, hjl2, hnl, idf, ha1, ha2, hil, hia, hit, hz', storeE, ← hH1, hrow1, hrowA, hrowB, hrowC, n0, n1, n2, n3, hkb, hmw, hsw, cA, c31', cB, cC, cD, mA, mB, mB2, mC, mD, hpl, hpa, e3, hw1]
    refine ⟨_, _, rfl, rfl, ?_, oldD⟩
    have : bs ++ incB i = bs ++ [UInt8.ofNat i.kind.toNat] ++ preB i.r.to ++ num i.r.metric.toNat ++ num i.r.seq.toNat := by simp [incB, h3]
    rw [this]
    exact wD

theorem incB_len {i : Inc} (hi : i.ok) (hm : may i = true) : (incB i).length ≤ 40 := by
  obtain ⟨_, hr, hm0, hm1⟩ := may_facts hi hm
  have hseq := hi.2.2.2
  have hpre : (preB i.r.to).length ≤ 20 := by simp [preB]; have := right_le hr; have := width_le i.r.to.six; omega
  have h1 := num_len 2 i.r.metric.toNat (by omega)
  have h2 := num_len 4 i.r.seq.toNat (by omega)
  unfold incB
  split <;> simp <;> omega

theorem loop11 (n : Nat) (h0 : Heap) (x : AV) (all : List Inc) (s : SlV h0 21 x (all.map Inc.av)) (hok : ∀ i ∈ all, i.ok) (hmay : ∀ i ∈ all, may i = true) (hbig : all.length < 500) : ∀ (rest pre : List Inc) (j : Nat) (fr : FR) (H : Heap) (bs : List UInt8), pre ++ rest = all → rest.length < j → (∀ id, id < h0.length → H[id]? = h0[id]?) → WR h0.length H h0.length bs → bs.length + rest.length * 40 < 80000000 →
    keepF (masks 11) fr = [(4, .ptr h0.length 0 0 [] 0), (21, x), (22, .v (.int .i64 all.length)), (23, .v (.int .i64 (pre.length : Nat)))] →
    ∃ fr' H', loopN (exec E (call E (n + 507)) (n + 507) 11 56 h0.length (loopB Tryz.f11 0)) (masks 11) j ⟨fr, H, [], []⟩ = some (.exit 1, ⟨fr', H', [], []⟩) ∧ AM.get fr' 4 = some (.ptr h0.length 0 0 [] 0) ∧ WR h0.length H' h0.length (bs ++ rest.flatMap incB)
  | [], pre, j, fr, H, bs, hl, hj, hold, w, hbs, hk => by
    obtain ⟨j, rfl⟩ : ∃ i, j = i + 1 := ⟨j - 1, by simp at hj; omega⟩
    have hi : ¬ ((pre.length : Int) < all.length) := by rw [← hl]; simp
    have he : ∃ fr', exec E (call E (n + 507)) (n + 507) 11 56 h0.length (loopB Tryz.f11 0) ⟨keepF (masks 11) fr, H, [], []⟩ = some (.exit 1, ⟨fr', H, [], []⟩) ∧ AM.get fr' 4 = some (.ptr h0.length 0 0 [] 0) := by
      rw [hk, exec_code]
      simp -implicitDefEqProofs only [simA, Nat.reduceAdd, Nat.reduceLT, Nat.reduceEqDiff, Nat.reduceLeDiff, Nat.reduceMul, Int.reduceBEq, Int.reduceBNe, Int.reduceLT, Int.reduceLE, Int.reduceAdd, Int.reduceSub, Int.reduceMul, Int.reduceNeg, Nat.reduceSub, Nat.reducePow, Nat.reduceDiv, Nat.reduceMod, ln_22, bd_69, cv_3_71, und_22, sz_60, agg_60, zero_60, fo_60_0, sz_3, agg_3, cv_3_5, fo_60_1, fo_58_0, sz_55, agg_55, fo_58_1, fo_58_2, sz_56, agg_56, cv_56_71, keep_11, E_masks, masks, rows_11, Tryz.f11, hi]
      exact ⟨_, rfl, rfl⟩
    obtain ⟨fr', he, hg⟩ := he
    exact ⟨fr', H, loopN_out he, hg, by simpa using w⟩
  | i :: rest, pre, j, fr, H, bs, hl, hj, hold, w, hbs, hk => by
    obtain ⟨j, rfl⟩ : ∃ i, j = i + 1 := ⟨j - 1, by simp at hj; omega⟩
    have hi0 : i ∈ all := by rw [← hl]; simp
    have hib := incB_len (hok i hi0) (hmay i hi0)
    obtain ⟨fr1, H1, he, hk1, w1, hold1⟩ := round11 n h0 H x all i pre.length bs s hold (by rw [← hl]; simp) (hok i hi0) (hmay i hi0) w hbig (by simp at hbs; omega)
    obtain ⟨fr', H', g1, g2, g3⟩ := loop11 n h0 x all s hok hmay hbig rest (pre ++ [i]) j fr1 H1 (bs ++ incB i) (by rw [← hl]; simp) (by simp at hj; omega) hold1 w1 (by simp at hbs ⊢; omega) (by rw [hk1]; simp)
    refine ⟨fr', H', ?_, g2, by simpa using g3⟩
    rw [loopN_step (by rw [hk]; exact he)]
    exact g1

theorem wrongs_false {all : List Inc} (h : wrongs all = false) : ∀ i ∈ all, may i = true := fun i hi => by
  unfold wrongs at h
  rw [List.any_eq_false] at h
  simpa using h i hi

def printS (all : List Inc) : List UInt8 × Int := if wrongs all then ([], 1) else if all.length > 200 then ([], 7) else (printB all, 0)

theorem c11 (n : Nat) (h : Heap) (x : AV) (all : List Inc) (hok : ∀ i ∈ all, i.ok) (s : SlV h 21 x (all.map Inc.av)) (hbig : all.length < 500) :
    call E (n + 508) 11 [x] h = some (.tup [.v (.string (strB (printS all).1)), .v (.int .i64 (printS all).2)], h, ⟨[], [], true⟩) := by
  have hw := fun n => c27 n h x all hok s hbig
  have hlen : sliceLen x = some all.length := by have := s.len; simpa using this
  cases hwr : wrongs all with
  | true =>
    rw [hwr] at hw
    rw [call_at (E := E) (f := 11) (fn := Tryz.f11) rfl Tryz.func11 rfl (Nat.le_of_ble_eq_true rfl)]
    simp -implicitDefEqProofs only [simA, Nat.reduceAdd, Nat.reduceLT, Nat.reduceEqDiff, Nat.reduceLeDiff, Nat.reduceMul, Int.reduceBEq, Int.reduceBNe, Int.reduceLT, Int.reduceLE, Int.reduceAdd, Int.reduceSub, Int.reduceMul, Int.reduceNeg, Nat.reduceSub, Nat.reducePow, Nat.reduceDiv, Nat.reduceMod, ln_22, bd_69, cv_3_71, und_22, sz_60, agg_60, zero_60, fo_60_0, sz_3, agg_3, cv_3_5, fo_60_1, fo_58_0, sz_55, agg_55, fo_58_1, fo_58_2, sz_56, agg_56, cv_56_71, keep_11, E_masks, masks, rows_11, Tryz.f11, hw]
    simp [printS, hwr, strB]
  | false =>
    rw [hwr] at hw
    by_cases h200 : (200 : Int) < all.length
    · rw [call_at (E := E) (f := 11) (fn := Tryz.f11) rfl Tryz.func11 rfl (Nat.le_of_ble_eq_true rfl)]
      simp -implicitDefEqProofs only [simA, Nat.reduceAdd, Nat.reduceLT, Nat.reduceEqDiff, Nat.reduceLeDiff, Nat.reduceMul, Int.reduceBEq, Int.reduceBNe, Int.reduceLT, Int.reduceLE, Int.reduceAdd, Int.reduceSub, Int.reduceMul, Int.reduceNeg, Nat.reduceSub, Nat.reducePow, Nat.reduceDiv, Nat.reduceMod, ln_22, bd_69, cv_3_71, und_22, sz_60, agg_60, zero_60, fo_60_0, sz_3, agg_3, cv_3_5, fo_60_1, fo_58_0, sz_55, agg_55, fo_58_1, fo_58_2, sz_56, agg_56, cv_56_71, keep_11, E_masks, masks, rows_11, Tryz.f11, hw, hlen, h200]
      have : 200 < all.length := by omega
      simp [printS, hwr, strB, this]
    · have hmay := wrongs_false hwr
      -- the writer
      obtain ⟨H0, hH0⟩ : ∃ H0, H0 = h ++ [bld nilP nilS] := ⟨_, rfl⟩
      have w0 : WR h.length H0 h.length [] := ⟨Nat.le_refl _, _, _, by rw [hH0, end0]; rfl, .inl ⟨rfl, rfl, .inl rfl⟩⟩
      obtain ⟨hA, dA, cA, wA, fA⟩ := c28 (n + 3) h.length H0 h.length all.length [] w0 (by simp) (by omega)
      simp only [Nat.add_assoc, Nat.reduceAdd] at cA
      have mA : mergeLt h.length dA [] = [] := mergeLt_ge fA.dge
      have holdA : ∀ id, id < h.length → hA[id]? = h[id]? := fun id hid => by rw [fA.old id hid, hH0, app_get hid]
      have hnl := num_len 2 all.length (by omega)
      obtain ⟨fr', H', g1, g2, g3⟩ := loop11 n h x all s hok hmay hbig all [] (n + 507) [(4, .ptr h.length 0 0 [] 0), (21, x), (22, .v (.int .i64 all.length)), (23, .v (.int .i64 0))] hA ([] ++ num all.length) rfl (by omega) holdA wA (by simp; omega) rfl
      obtain ⟨hB, dB, qB, cB, fB⟩ := c32 (n + 6) h.length H' h.length _ g3
      simp only [Nat.add_assoc, Nat.reduceAdd] at cB
      have mB : mergeLt h.length dB [] = [] := mergeLt_ge fB.dge
      have hlw : IntKind.u64.wrap (all.length : Int) = all.length := wrap_u64 (by omega) (by omega)
      have hH0' : h ++ [Row.row 2 0 [AV.agg [AV.agg [nilP, nilS]]] ⟨true, 69⟩] = H0 := hH0.symm
      simp -implicitDefEqProofs only [simA, Nat.reduceAdd, Nat.reduceLT, Nat.reduceEqDiff, Nat.reduceLeDiff, Nat.reduceMul, Int.reduceBEq, Int.reduceBNe, Int.reduceLT, Int.reduceLE, Int.reduceAdd, Int.reduceSub, Int.reduceMul, Int.reduceNeg, Nat.reduceSub, Nat.reducePow, Nat.reduceDiv, Nat.reduceMod, ln_22, bd_69, cv_3_71, und_22, sz_60, agg_60, zero_60, fo_60_0, sz_3, agg_3, cv_3_5, fo_60_1, fo_58_0, sz_55, agg_55, fo_58_1, fo_58_2, sz_56, agg_56, cv_56_71, keep_11, E_masks, masks, rows_11, Tryz.f11] at g1
      rw [call_at (E := E) (f := 11) (fn := Tryz.f11) rfl Tryz.func11 rfl (Nat.le_of_ble_eq_true rfl)]
      simp -implicitDefEqProofs only [simA, Nat.reduceAdd, Nat.reduceLT, Nat.reduceEqDiff, Nat.reduceLeDiff, Nat.reduceMul, Int.reduceBEq, Int.reduceBNe, Int.reduceLT, Int.reduceLE, Int.reduceAdd, Int.reduceSub, Int.reduceMul, Int.reduceNeg, Nat.reduceSub, Nat.reducePow, Nat.reduceDiv, Nat.reduceMod, ln_22, bd_69, cv_3_71, und_22, sz_60, agg_60, zero_60, fo_60_0, sz_3, agg_3, cv_3_5, fo_60_1, fo_58_0, sz_55, agg_55, fo_58_1, fo_58_2, sz_56, agg_56, cv_56_71, keep_11, E_masks, masks, rows_11, Tryz.f11, hw, hlen, h200, hH0', hlw, cA, mA, g1, g2, cB, mB]
      have h200' : ¬ 200 < all.length := by omega
      simp [printS, hwr, h200', printB]

end Go.Proofs.YtobdjegooonklaaGreat
