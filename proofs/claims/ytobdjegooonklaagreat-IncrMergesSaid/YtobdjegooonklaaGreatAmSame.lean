/- What the comparing of two lists of changes does. Conditions: none. -/
import Derived.Test.YtobdjegooonklaaGreatAmIncr
import Derived.Test.YtobdjegooonklaaGreatAmTypes2
set_option linter.unusedSimpArgs false
set_option linter.unusedVariables false
namespace Go.Proofs.YtobdjegooonklaaGreat
open Go Go.AM

theorem loop14 (n n0 : Nat) (h : Heap) (x y : AV) (a b : List Inc) (sx : SlV h 21 x (a.map Inc.av)) (sy : SlV h 21 y (b.map Inc.av)) (ha : ∀ i ∈ a, i.ok) (hb : ∀ i ∈ b, i.ok) (hl : a.length = b.length) (hbig : a.length < 490) : ∀ (ra pa rb pb : List Inc) (j : Nat) (fr : FR), pa ++ ra = a → pb ++ rb = b → pa.length = pb.length → ra.length < j → keepF (masks 14) fr = [(0, x), (1, y), (5, .v (.int .i64 (pa.length : Nat)))] →
    ∃ fr', (loopN (exec E (call E (n + 499)) (n + 499) 14 26 n0 (loopB Tryz.f14 0)) (masks 14) j ⟨fr, h, [], []⟩ = some (.exit 0, ⟨fr', h, [], []⟩) ∧ ra = rb) ∨
      (loopN (exec E (call E (n + 499)) (n + 499) 14 26 n0 (loopB Tryz.f14 0)) (masks 14) j ⟨fr, h, [], []⟩ = some (.ret, ⟨fr', h, [], []⟩) ∧ AM.get fr' 4 = some (.v (.bool false)) ∧ ra ≠ rb)
  | [], pa, rb, pb, j, fr, h1, h2, h3, hj, hk => by
    obtain ⟨j, rfl⟩ : ∃ i, j = i + 1 := ⟨j - 1, by simp at hj; omega⟩
    have hlen : sliceLen x = some a.length := by have := sx.len; simpa using this
    have hi : ¬ ((pa.length : Int) < a.length) := by rw [← h1]; simp
    have hrb : rb = [] := by
      have : rb.length = 0 := by rw [← h1, ← h2] at hl; simp at hl; omega
      exact List.eq_nil_of_length_eq_zero this
    have he : ∃ fr', exec E (call E (n + 499)) (n + 499) 14 26 n0 (loopB Tryz.f14 0) ⟨keepF (masks 14) fr, h, [], []⟩ = some (.exit 0, ⟨fr', h, [], []⟩) := by
      rw [hk, exec_code]
      simp -implicitDefEqProofs only [simA, Nat.reduceAdd, Nat.reduceLT, Nat.reduceEqDiff, Nat.reduceLeDiff, Nat.reduceMul, Int.reduceBEq, Int.reduceBNe, Int.reduceLT, Int.reduceLE, Int.reduceAdd, Int.reduceSub, Int.reduceMul, Int.reduceNeg, Nat.reduceSub, Nat.reducePow, Nat.reduceDiv, Nat.reduceMod, ln_22, prs_14_6, und_22, sz_60, agg_60, keep_14, E_masks, masks, rows_14, Tryz.f14, hlen, hi]
      exact ⟨_, rfl⟩
    obtain ⟨fr', he⟩ := he
    exact ⟨fr', .inl ⟨loopN_out he, hrb.symm⟩⟩
  | i :: ra, pa, rb, pb, j, fr, h1, h2, h3, hj, hk => by
    obtain ⟨j, rfl⟩ : ∃ i, j = i + 1 := ⟨j - 1, by simp at hj; omega⟩
    have hlen : sliceLen x = some a.length := by have := sx.len; simpa using this
    have hi : ((pa.length : Int) < a.length) := by rw [← h1]; simp; omega
    cases rb with
    | nil => rw [← h1, ← h2] at hl; simp at hl; omega
    | cons k rb =>
      have hi0 : i.ok := ha i (by rw [← h1]; simp)
      have hk0 : k.ok := hb k (by rw [← h2]; simp)
      obtain ⟨q1, qa1, qa2⟩ := sx.at (t := 22) (e := 60) und_22 sz_60 (j := pa.length) (y := i.av) (by rw [← h1]; simp)
      obtain ⟨q2, qb1, qb2⟩ := sy.at (t := 22) (e := 60) und_22 sz_60 (j := pa.length) (y := k.av) (by rw [h3, ← h2]; simp)
      have hil : AM.leafs i.av = 21 := Inc.leafs hi0
      have hia : isAggA i.av = true := rfl
      have hkl : AM.leafs k.av = 21 := Inc.leafs hk0
      have hka : isAggA k.av = true := rfl
      have hne := fun ox oy => ne60 (ox := ox) (oy := oy) hi0 hk0
      have w1 := wrapN1 (n := pa.length) (by rw [← h1] at hbig; simp at hbig; omega)
      by_cases hik : i = k
      · have hd : decide (i = k) = true := decide_eq_true hik
        have he : ∃ fr', exec E (call E (n + 499)) (n + 499) 14 26 n0 (loopB Tryz.f14 0) ⟨keepF (masks 14) fr, h, [], []⟩ = some (.normal, ⟨fr', h, [], []⟩) ∧ keepF (masks 14) fr' = [(0, x), (1, y), (5, .v (.int .i64 ((pa.length + 1 : Nat) : Int)))] := by
          rw [hk, exec_code]
          simp -implicitDefEqProofs only [simA, Nat.reduceAdd, Nat.reduceLT, Nat.reduceEqDiff, Nat.reduceLeDiff, Nat.reduceMul, Int.reduceBEq, Int.reduceBNe, Int.reduceLT, Int.reduceLE, Int.reduceAdd, Int.reduceSub, Int.reduceMul, Int.reduceNeg, Nat.reduceSub, Nat.reducePow, Nat.reduceDiv, Nat.reduceMod, ln_22, prs_14_6, und_22, sz_60, agg_60, keep_14, E_masks, masks, rows_14, Tryz.f14, hlen, hi, qa1, qa2, qb1, qb2, hil, hia, hkl, hka, hne, hd, w1, pairsOK]
          exact ⟨_, rfl, rfl⟩
        obtain ⟨fr1, he, hk1⟩ := he
        obtain ⟨fr', g⟩ := loop14 n n0 h x y a b sx sy ha hb hl hbig ra (pa ++ [i]) rb (pb ++ [k]) j fr1 (by rw [← h1]; simp) (by rw [← h2]; simp) (by simp [h3]) (by simp at hj; omega) (by rw [hk1]; simp)
        refine ⟨fr', ?_⟩
        rw [loopN_step he]
        rcases g with ⟨g1, g2⟩ | ⟨g1, g2, g3⟩
        · exact .inl ⟨g1, by rw [hik, g2]⟩
        · exact .inr ⟨g1, g2, fun hh => g3 (List.cons.inj hh).2⟩
      · have hd : decide (i = k) = false := decide_eq_false hik
        have he : ∃ fr', exec E (call E (n + 499)) (n + 499) 14 26 n0 (loopB Tryz.f14 0) ⟨keepF (masks 14) fr, h, [], []⟩ = some (.ret, ⟨fr', h, [], []⟩) ∧ AM.get fr' 4 = some (.v (.bool false)) := by
          rw [hk, exec_code]
          simp -implicitDefEqProofs only [simA, Nat.reduceAdd, Nat.reduceLT, Nat.reduceEqDiff, Nat.reduceLeDiff, Nat.reduceMul, Int.reduceBEq, Int.reduceBNe, Int.reduceLT, Int.reduceLE, Int.reduceAdd, Int.reduceSub, Int.reduceMul, Int.reduceNeg, Nat.reduceSub, Nat.reducePow, Nat.reduceDiv, Nat.reduceMod, ln_22, prs_14_6, und_22, sz_60, agg_60, keep_14, E_masks, masks, rows_14, Tryz.f14, hlen, hi, qa1, qa2, qb1, qb2, hil, hia, hkl, hka, hne, hd, w1, pairsOK]
          exact ⟨_, rfl, rfl⟩
        obtain ⟨fr', he, hg⟩ := he
        exact ⟨fr', .inr ⟨loopN_ret he, hg, fun hh => hik (List.cons.inj hh).1⟩⟩

theorem c14 (n : Nat) (h : Heap) (x y : AV) (a b : List Inc) (sx : SlV h 21 x (a.map Inc.av)) (sy : SlV h 21 y (b.map Inc.av)) (ha : ∀ i ∈ a, i.ok) (hb : ∀ i ∈ b, i.ok) (hbig : a.length < 490) : call E (n + 500) 14 [x, y] h = some (.v (.bool (decide (a = b))), h, ⟨[], [], true⟩) := by
  have hlx : sliceLen x = some a.length := by have := sx.len; simpa using this
  have hly : sliceLen y = some b.length := by have := sy.len; simpa using this
  by_cases hl : a.length = b.length
  · have hn : ((a.length : Int) != (b.length : Int)) = false := by simp; omega
    obtain ⟨fr', ⟨g1, g2⟩ | ⟨g1, g2, g3⟩⟩ := loop14 n h.length h x y a b sx sy ha hb hl hbig a [] b [] (n + 499) [(0, x), (1, y), (5, .v (.int .i64 0))] rfl rfl rfl (by omega) rfl
    · simp -implicitDefEqProofs only [simA, Nat.reduceAdd, Nat.reduceLT, Nat.reduceEqDiff, Nat.reduceLeDiff, Nat.reduceMul, Int.reduceBEq, Int.reduceBNe, Int.reduceLT, Int.reduceLE, Int.reduceAdd, Int.reduceSub, Int.reduceMul, Int.reduceNeg, Nat.reduceSub, Nat.reducePow, Nat.reduceDiv, Nat.reduceMod, ln_22, prs_14_6, und_22, sz_60, agg_60, keep_14, E_masks, masks, rows_14, Tryz.f14] at g1
      rw [call_at (E := E) (f := 14) (fn := Tryz.f14) rfl Tryz.func14 rfl (Nat.le_of_ble_eq_true rfl)]
      simp -implicitDefEqProofs only [simA, Nat.reduceAdd, Nat.reduceLT, Nat.reduceEqDiff, Nat.reduceLeDiff, Nat.reduceMul, Int.reduceBEq, Int.reduceBNe, Int.reduceLT, Int.reduceLE, Int.reduceAdd, Int.reduceSub, Int.reduceMul, Int.reduceNeg, Nat.reduceSub, Nat.reducePow, Nat.reduceDiv, Nat.reduceMod, ln_22, prs_14_6, und_22, sz_60, agg_60, keep_14, E_masks, masks, rows_14, Tryz.f14, hlx, hly, hn, g1]
      simp [g2]
    · simp -implicitDefEqProofs only [simA, Nat.reduceAdd, Nat.reduceLT, Nat.reduceEqDiff, Nat.reduceLeDiff, Nat.reduceMul, Int.reduceBEq, Int.reduceBNe, Int.reduceLT, Int.reduceLE, Int.reduceAdd, Int.reduceSub, Int.reduceMul, Int.reduceNeg, Nat.reduceSub, Nat.reducePow, Nat.reduceDiv, Nat.reduceMod, ln_22, prs_14_6, und_22, sz_60, agg_60, keep_14, E_masks, masks, rows_14, Tryz.f14] at g1
      rw [call_at (E := E) (f := 14) (fn := Tryz.f14) rfl Tryz.func14 rfl (Nat.le_of_ble_eq_true rfl)]
      simp -implicitDefEqProofs only [simA, Nat.reduceAdd, Nat.reduceLT, Nat.reduceEqDiff, Nat.reduceLeDiff, Nat.reduceMul, Int.reduceBEq, Int.reduceBNe, Int.reduceLT, Int.reduceLE, Int.reduceAdd, Int.reduceSub, Int.reduceMul, Int.reduceNeg, Nat.reduceSub, Nat.reducePow, Nat.reduceDiv, Nat.reduceMod, ln_22, prs_14_6, und_22, sz_60, agg_60, keep_14, E_masks, masks, rows_14, Tryz.f14, hlx, hly, hn, g1, g2]
      simp [g3]
  · have hn : ((a.length : Int) != (b.length : Int)) = true := by simp; omega
    have hab : ¬ a = b := fun e => hl (by rw [e])
    rw [call_at (E := E) (f := 14) (fn := Tryz.f14) rfl Tryz.func14 rfl (Nat.le_of_ble_eq_true rfl)]
    simp -implicitDefEqProofs only [simA, Nat.reduceAdd, Nat.reduceLT, Nat.reduceEqDiff, Nat.reduceLeDiff, Nat.reduceMul, Int.reduceBEq, Int.reduceBNe, Int.reduceLT, Int.reduceLE, Int.reduceAdd, Int.reduceSub, Int.reduceMul, Int.reduceNeg, Nat.reduceSub, Nat.reducePow, Nat.reduceDiv, Nat.reduceMod, ln_22, prs_14_6, und_22, sz_60, agg_60, keep_14, E_masks, masks, rows_14, Tryz.f14, hlx, hly, hn]
    simp [hab]

end Go.Proofs.YtobdjegooonklaaGreat
