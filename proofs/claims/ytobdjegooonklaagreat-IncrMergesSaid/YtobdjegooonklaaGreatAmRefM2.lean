/- The reference's last change of a prefix. Conditions: none. -/
import Derived.Test.YtobdjegooonklaaGreatAmRefM1
set_option linter.unusedSimpArgs false
set_option linter.unusedVariables false
set_option maxRecDepth 100000
set_option maxHeartbeats 1000000
namespace Go.Proofs.YtobdjegooonklaaGreat
open Go Go.AM

/-- Of the first changes the last one of a prefix. -/
def lastN (l : List Inc) (p : Pre) : Nat → Option Nat
  | 0 => none
  | k + 1 => match l[k]? with
    | some i => if i.r.to = p then some k else lastN l p k
    | none => lastN l p k
def lastZ (l : List Inc) (p : Pre) (k : Nat) : Int := match lastN l p k with
  | some j => (j : Nat)
  | none => -1

theorem inc_at {h : Heap} {id g : Nat} {ex : Tag} {l : List Inc} {j : Nat} {i : Inc} (hr : h[id]? = some (.row 21 g (l.map Inc.av) ex)) (hy : l[j]? = some i) : indexAddrE E.P h 22 (.sl id g 0 l.length) (.v (.int .i64 (j : Nat))) = some (.ptr id g j [] 0) ∧ (l.map Inc.av)[j]? = some i.av := by
  have hj : j < l.length := (List.getElem?_eq_some_iff.1 hy).1
  have h2 : (j : Int) < l.length := by omega
  exact ⟨by simp [indexAddrE, und_22, sz_60, idx, h2, hr], by simp [hy]⟩

theorem loop57 (n n0 : Nat) (H : Heap) (id g : Nat) (ex : Tag) (l : List Inc) (hok : ∀ i ∈ l, i.ok) (hr : H[id]? = some (.row 21 g (l.map Inc.av) ex)) (hbig : l.length < 490) (at_ : Nat) (it : Inc) (hat : l[at_]? = some it) : ∀ (k j : Nat) (fr : FR), k ≤ at_ → k < j → keepF (masks 57) fr = [(0, .sl id g 0 l.length), (1, .v (.int .i64 (at_ : Nat))), (5, .v (.int .i64 ((k : Int) - 1)))] →
    ∃ fr', (lastN l it.r.to k = none ∧ loopN (exec E (call E (n + 499)) (n + 499) 57 26 n0 (loopB Tryz.f57 0)) (masks 57) j ⟨fr, H, [], []⟩ = some (.exit 0, ⟨fr', H, [], []⟩)) ∨
      (∃ q : Nat, lastN l it.r.to k = some q ∧ loopN (exec E (call E (n + 499)) (n + 499) 57 26 n0 (loopB Tryz.f57 0)) (masks 57) j ⟨fr, H, [], []⟩ = some (.ret, ⟨fr', H, [], []⟩) ∧ AM.get fr' 4 = some (.v (.int .i64 (q : Nat))))
  | 0, j, fr, hk0, hj, hk => by
    obtain ⟨j, rfl⟩ : ∃ i, j = i + 1 := ⟨j - 1, by omega⟩
    have he : ∃ fr', exec E (call E (n + 499)) (n + 499) 57 26 n0 (loopB Tryz.f57 0) ⟨[(0, .sl id g 0 l.length), (1, .v (.int .i64 (at_ : Nat))), (5, .v (.int .i64 (((0 : Nat) : Int) - 1)))], H, [], []⟩ = some (.exit 0, ⟨fr', H, [], []⟩) := by
      have e : (((0 : Nat) : Int) - 1) = -1 := by omega
      rw [exec_code, e]
      simp -implicitDefEqProofs only [simA, Nat.reduceAdd, Nat.reduceLT, Nat.reduceEqDiff, Nat.reduceLeDiff, Nat.reduceMul, Int.reduceBEq, Int.reduceBNe, Int.reduceLT, Int.reduceLE, Int.reduceAdd, Int.reduceSub, Int.reduceMul, Int.reduceNeg, Nat.reduceSub, Nat.reducePow, Nat.reduceDiv, Nat.reduceMod, prs_57_4, und_22, sz_60, fo_60_1, fo_58_0, sz_55, agg_55, keep_57, E_masks, masks, rows_57, Tryz.f57]
      exact ⟨_, rfl⟩
    obtain ⟨fr', he⟩ := he
    exact ⟨fr', .inl ⟨rfl, loopN_outK hk he⟩⟩
  | k + 1, j, fr, hk0, hj, hk => by
    obtain ⟨j, rfl⟩ : ∃ i, j = i + 1 := ⟨j - 1, by omega⟩
    have hatl : at_ < l.length := (List.getElem?_eq_some_iff.1 hat).1
    obtain ⟨i, hi⟩ : ∃ i, l[k]? = some i := ⟨_, List.getElem?_eq_getElem (by omega)⟩
    have hio := hok i (List.mem_of_getElem? hi)
    have hto := hok it (List.mem_of_getElem? hat)
    obtain ⟨a1, b1⟩ := inc_at hr hi
    obtain ⟨a2, b2⟩ := inc_at hr hat
    have e0 : (((k + 1 : Nat) : Int) - 1) = (k : Nat) := by omega
    have g0 : (0 : Int) ≤ ((k : Nat) : Int) := by omega
    have w : IntKind.i64.wrap (((k : Nat) : Int) - 1) = ((k : Nat) : Int) - 1 := wrap_i64 (by omega) (by omega)
    have n2 : ∀ i : Inc, nav i.av [1, 0] 1 = some i.r.to.av := fun _ => rfl
    have l1 : AM.leafs i.r.to.av = 18 := Pre.leafs hio.2.1
    have l2 : AM.leafs it.r.to.av = 18 := Pre.leafs hto.2.1
    have i1 : ∀ p : Pre, isAggA p.av = true := fun _ => rfl
    have heq := fun ox oy => eq55 (ox := ox) (oy := oy) hio.2.1 hto.2.1
    rw [e0] at hk
    by_cases hp : i.r.to = it.r.to
    · have hd : decide (i.r.to = it.r.to) = true := decide_eq_true hp
      have he : ∃ fr', exec E (call E (n + 499)) (n + 499) 57 26 n0 (loopB Tryz.f57 0) ⟨[(0, .sl id g 0 l.length), (1, .v (.int .i64 (at_ : Nat))), (5, .v (.int .i64 (k : Nat)))], H, [], []⟩ = some (.ret, ⟨fr', H, [], []⟩) ∧ AM.get fr' 4 = some (.v (.int .i64 (k : Nat))) := by
        rw [exec_code]
        simp -implicitDefEqProofs only [simA, Nat.reduceAdd, Nat.reduceLT, Nat.reduceEqDiff, Nat.reduceLeDiff, Nat.reduceMul, Int.reduceBEq, Int.reduceBNe, Int.reduceLT, Int.reduceLE, Int.reduceAdd, Int.reduceSub, Int.reduceMul, Int.reduceNeg, Nat.reduceSub, Nat.reducePow, Nat.reduceDiv, Nat.reduceMod, prs_57_4, und_22, sz_60, fo_60_1, fo_58_0, sz_55, agg_55, keep_57, E_masks, masks, rows_57, Tryz.f57, g0, a1, a2, hr, b1, b2, n2, l1, l2, i1, heq, hd, pairsOK, clsOf, compat]
        exact ⟨_, rfl, rfl⟩
      obtain ⟨fr', he, hg⟩ := he
      exact ⟨fr', .inr ⟨k, by simp [lastN, hi, hp], loopN_retK hk he, hg⟩⟩
    · have hd : decide (i.r.to = it.r.to) = false := decide_eq_false hp
      have he : ∃ fr', exec E (call E (n + 499)) (n + 499) 57 26 n0 (loopB Tryz.f57 0) ⟨[(0, .sl id g 0 l.length), (1, .v (.int .i64 (at_ : Nat))), (5, .v (.int .i64 (k : Nat)))], H, [], []⟩ = some (.normal, ⟨fr', H, [], []⟩) ∧ keepF (masks 57) fr' = [(0, .sl id g 0 l.length), (1, .v (.int .i64 (at_ : Nat))), (5, .v (.int .i64 (((k : Nat) : Int) - 1)))] := by
        rw [exec_code]
        simp -implicitDefEqProofs only [simA, Nat.reduceAdd, Nat.reduceLT, Nat.reduceEqDiff, Nat.reduceLeDiff, Nat.reduceMul, Int.reduceBEq, Int.reduceBNe, Int.reduceLT, Int.reduceLE, Int.reduceAdd, Int.reduceSub, Int.reduceMul, Int.reduceNeg, Nat.reduceSub, Nat.reducePow, Nat.reduceDiv, Nat.reduceMod, prs_57_4, und_22, sz_60, fo_60_1, fo_58_0, sz_55, agg_55, keep_57, E_masks, masks, rows_57, Tryz.f57, g0, a1, a2, hr, b1, b2, n2, l1, l2, i1, heq, hd, w, pairsOK, clsOf, compat]
        exact ⟨_, rfl, rfl⟩
      obtain ⟨fr1, he, hk1⟩ := he
      obtain ⟨fr', g⟩ := loop57 n n0 H id g ex l hok hr hbig at_ it hat k j fr1 (by omega) (by omega) hk1
      refine ⟨fr', ?_⟩
      rw [loopN_stepK hk he]
      simp only [lastN, hi, if_neg hp]
      exact g

theorem c57 (n : Nat) (h : Heap) (id g : Nat) (ex : Tag) (l : List Inc) (hok : ∀ i ∈ l, i.ok) (hr : h[id]? = some (.row 21 g (l.map Inc.av) ex)) (hbig : l.length < 490) (at_ : Nat) (it : Inc) (hat : l[at_]? = some it) :
    call E (n + 500) 57 [.sl id g 0 l.length, .v (.int .i64 (at_ : Nat))] h = some (.v (.int .i64 (lastZ l it.r.to at_)), h, ⟨[], [], true⟩) := by
  have hatl : at_ < l.length := (List.getElem?_eq_some_iff.1 hat).1
  have w : IntKind.i64.wrap (((at_ : Nat) : Int) - 1) = ((at_ : Nat) : Int) - 1 := wrap_i64 (by omega) (by omega)
  obtain ⟨fr', ⟨q, g1⟩ | ⟨k, q, g1, g2⟩⟩ := loop57 n h.length h id g ex l hok hr hbig at_ it hat at_ (n + 499) [(0, .sl id g 0 l.length), (1, .v (.int .i64 (at_ : Nat))), (5, .v (.int .i64 (((at_ : Nat) : Int) - 1)))] (Nat.le_refl _) (by omega) rfl
  · simp -implicitDefEqProofs only [simA, Nat.reduceAdd, Nat.reduceLT, Nat.reduceEqDiff, Nat.reduceLeDiff, Nat.reduceMul, Int.reduceBEq, Int.reduceBNe, Int.reduceLT, Int.reduceLE, Int.reduceAdd, Int.reduceSub, Int.reduceMul, Int.reduceNeg, Nat.reduceSub, Nat.reducePow, Nat.reduceDiv, Nat.reduceMod, prs_57_4, und_22, sz_60, fo_60_1, fo_58_0, sz_55, agg_55, keep_57, E_masks, masks, rows_57, Tryz.f57] at g1
    rw [call_at (E := E) (f := 57) (fn := Tryz.f57) rfl Tryz.func57 rfl (Nat.le_of_ble_eq_true rfl)]
    simp -implicitDefEqProofs only [simA, Nat.reduceAdd, Nat.reduceLT, Nat.reduceEqDiff, Nat.reduceLeDiff, Nat.reduceMul, Int.reduceBEq, Int.reduceBNe, Int.reduceLT, Int.reduceLE, Int.reduceAdd, Int.reduceSub, Int.reduceMul, Int.reduceNeg, Nat.reduceSub, Nat.reducePow, Nat.reduceDiv, Nat.reduceMod, prs_57_4, und_22, sz_60, fo_60_1, fo_58_0, sz_55, agg_55, keep_57, E_masks, masks, rows_57, Tryz.f57, w, g1, lastZ, q]
  · simp -implicitDefEqProofs only [simA, Nat.reduceAdd, Nat.reduceLT, Nat.reduceEqDiff, Nat.reduceLeDiff, Nat.reduceMul, Int.reduceBEq, Int.reduceBNe, Int.reduceLT, Int.reduceLE, Int.reduceAdd, Int.reduceSub, Int.reduceMul, Int.reduceNeg, Nat.reduceSub, Nat.reducePow, Nat.reduceDiv, Nat.reduceMod, prs_57_4, und_22, sz_60, fo_60_1, fo_58_0, sz_55, agg_55, keep_57, E_masks, masks, rows_57, Tryz.f57] at g1
    rw [call_at (E := E) (f := 57) (fn := Tryz.f57) rfl Tryz.func57 rfl (Nat.le_of_ble_eq_true rfl)]
    simp -implicitDefEqProofs only [simA, Nat.reduceAdd, Nat.reduceLT, Nat.reduceEqDiff, Nat.reduceLeDiff, Nat.reduceMul, Int.reduceBEq, Int.reduceBNe, Int.reduceLT, Int.reduceLE, Int.reduceAdd, Int.reduceSub, Int.reduceMul, Int.reduceNeg, Nat.reduceSub, Nat.reducePow, Nat.reduceDiv, Nat.reduceMod, prs_57_4, und_22, sz_60, fo_60_1, fo_58_0, sz_55, agg_55, keep_57, E_masks, masks, rows_57, Tryz.f57, w, g1, g2, lastZ, q]

end Go.Proofs.YtobdjegooonklaaGreat
