/- The reference's Merge: its loops. Conditions: none. -/
import Derived.Test.YtobdjegooonklaaGreatAmRefM2
import Derived.Test.YtobdjegooonklaaGreatAmMerge3
import Derived.Test.YtobdjegooonklaaGreatAmLook
set_option linter.defProp false
set_option linter.unusedSimpArgs false
set_option linter.unusedVariables false
set_option maxRecDepth 100000
set_option maxHeartbeats 1000000
namespace Go.Proofs.YtobdjegooonklaaGreat
open Go Go.AM

def Zf22 := And.intro (And.intro (And.intro (And.intro (@bs_22_0_22) (And.intro (@ap_22_22) (@src_22))) (And.intro (And.intro (@ln_22) (@und_22)) (And.intro (@sz_60) (@agg_60)))) (And.intro (And.intro (@prs_22_12) (And.intro (@fo_60_0) (@sz_3))) (And.intro (And.intro (@agg_3) (@fo_60_1)) (And.intro (@fo_58_0) (@sz_55))))) (And.intro (And.intro (And.intro (@agg_55) (And.intro (@zero_55) (@bd_58))) (And.intro (And.intro (@sz_58) (@agg_58)) (And.intro (@bs_36_0_22) (@ap_36_36)))) (And.intro (And.intro (@src_36) (And.intro (@ln_36) (@und_36))) (And.intro (And.intro (@bd_60) (@bs_22_1_22)) (And.intro (@keep_22) (@rows_22)))))

/-- The changes that the reference reads: a row of its own. -/
structure In22 (id g : Nat) (l : List Inc) (t6 : AV) (H : Heap) : Prop where
  len : sliceLen t6 = some l.length
  sl : l ≠ [] → t6 = .sl id g 0 l.length ∧ H[id]? = some (.row 21 g (l.map Inc.av) ⟨false, 60⟩)
theorem In22.push {id g : Nat} {l : List Inc} {t6 : AV} {H : Heap} (o : In22 id g l t6 H) (K : Heap) : In22 id g l t6 (H ++ K) := by
  refine ⟨o.len, fun h => ?_⟩
  obtain ⟨h1, h2⟩ := o.sl h
  exact ⟨h1, by rw [List.getElem?_append_left (lt_of_getElem? h2)]; exact h2⟩

theorem loop22a (n n0 : Nat) (H : Heap) (id g : Nat) (l : List Inc) (t6 : AV) (I : In22 id g l t6 H) (hok : ∀ i ∈ l, i.ok) (hbig : l.length < 490) : ∀ (rest pre : List Inc) (j : Nat) (fr : FR), pre ++ rest = l → rest.length < j → keepF (masks 22) fr = [(6, t6), (7, nilS), (8, nilS), (9, .v (.int .i64 (pre.length : Nat)))] →
    ∃ fr', (wrongs rest = false ∧ loopN (exec E (call E (n + 503)) (n + 503) 22 166 n0 (loopB Tryz.f22 0)) (masks 22) j ⟨fr, H, [], []⟩ = some (.exit 0, ⟨fr', H, [], []⟩) ∧ AM.get fr' 6 = some t6 ∧ AM.get fr' 7 = some nilS ∧ AM.get fr' 8 = some nilS ∧ AM.get fr' 9 = some (.v (.int .i64 (l.length : Nat))) ∧ AM.get fr' 13 = none ∧ AM.get fr' 14 = none ∧ AM.get fr' 15 = none ∧ AM.get fr' 16 = none) ∨
      (wrongs rest = true ∧ loopN (exec E (call E (n + 503)) (n + 503) 22 166 n0 (loopB Tryz.f22 0)) (masks 22) j ⟨fr, H, [], []⟩ = some (.ret, ⟨fr', H, [], []⟩) ∧ AM.get fr' 4 = some nilS ∧ AM.get fr' 5 = some (.v (.bool false)))
  | [], pre, j, fr, hl, hj, hk => by
    obtain ⟨j, rfl⟩ : ∃ i, j = i + 1 := ⟨j - 1, by omega⟩
    have hpl : pre.length = l.length := by rw [← hl]; simp
    have hi : ¬ ((pre.length : Int) < (l.length : Int)) := by omega
    have hlen := I.len
    have he : ∃ fr', exec E (call E (n + 503)) (n + 503) 22 166 n0 (loopB Tryz.f22 0) ⟨[(6, t6), (7, nilS), (8, nilS), (9, .v (.int .i64 (pre.length : Nat)))], H, [], []⟩ = some (.exit 0, ⟨fr', H, [], []⟩) ∧ AM.get fr' 6 = some t6 ∧ AM.get fr' 7 = some nilS ∧ AM.get fr' 8 = some nilS ∧ AM.get fr' 9 = some (.v (.int .i64 (pre.length : Nat))) ∧ AM.get fr' 13 = none ∧ AM.get fr' 14 = none ∧ AM.get fr' 15 = none ∧ AM.get fr' 16 = none := by
      rw [exec_code]
      simp -implicitDefEqProofs only [simA, Nat.reduceAdd, Nat.reduceLT, Nat.reduceEqDiff, Nat.reduceLeDiff, Nat.reduceMul, Int.reduceBEq, Int.reduceBNe, Int.reduceLT, Int.reduceLE, Int.reduceAdd, Int.reduceSub, Int.reduceMul, Int.reduceNeg, Nat.reduceSub, Nat.reducePow, Nat.reduceDiv, Nat.reduceMod, Zf22, E_masks, masks, Tryz.f22, hi, hlen]
      exact ⟨_, rfl, rfl, rfl, rfl, rfl, rfl, rfl, rfl, rfl⟩
    obtain ⟨fr', he, g⟩ := he
    rw [hpl] at g
    exact ⟨fr', .inl ⟨rfl, loopN_outK hk he, g⟩⟩
  | i :: rest, pre, j, fr, hl, hj, hk => by
    obtain ⟨j, rfl⟩ : ∃ i, j = i + 1 := ⟨j - 1, by simp at hj; omega⟩
    have hi : ((pre.length : Int) < (l.length : Int)) := by rw [← hl]; simp; omega
    have hne : l ≠ [] := by rw [← hl]; simp
    obtain ⟨rfl, hr⟩ := I.sl hne
    have hgi : l[pre.length]? = some i := by rw [← hl]; simp
    have hio := hok i (List.mem_of_getElem? hgi)
    obtain ⟨a1, b1⟩ := inc_at hr hgi
    have w := wrapN1 (n := pre.length) (by rw [← hl] at hbig; simp at hbig; omega)
    have hli : AM.leafs i.av = 21 := Inc.leafs hio
    have hai : isAggA i.av = true := rfl
    have k33 := fun m => c33 m H i hio
    cases hm : may i with
    | true =>
      rw [hm] at k33
      have he : ∃ fr', exec E (call E (n + 503)) (n + 503) 22 166 n0 (loopB Tryz.f22 0) ⟨[(6, .sl id g 0 l.length), (7, nilS), (8, nilS), (9, .v (.int .i64 (pre.length : Nat)))], H, [], []⟩ = some (.normal, ⟨fr', H, [], []⟩) ∧ keepF (masks 22) fr' = [(6, .sl id g 0 l.length), (7, nilS), (8, nilS), (9, .v (.int .i64 ((pre.length + 1 : Nat) : Int)))] := by
        rw [exec_code]
        simp -implicitDefEqProofs only [simA, Nat.reduceAdd, Nat.reduceLT, Nat.reduceEqDiff, Nat.reduceLeDiff, Nat.reduceMul, Int.reduceBEq, Int.reduceBNe, Int.reduceLT, Int.reduceLE, Int.reduceAdd, Int.reduceSub, Int.reduceMul, Int.reduceNeg, Nat.reduceSub, Nat.reducePow, Nat.reduceDiv, Nat.reduceMod, Zf22, E_masks, masks, Tryz.f22, hi, a1, b1, hr, hli, hai, k33, w]
        exact ⟨_, rfl, rfl⟩
      obtain ⟨fr1, he, hk1⟩ := he
      obtain ⟨fr', g⟩ := loop22a n n0 H id g l (.sl id g 0 l.length) I hok hbig rest (pre ++ [i]) j fr1 (by rw [← hl]; simp) (by simp at hj; omega) (by rw [hk1]; simp)
      refine ⟨fr', ?_⟩
      rw [loopN_stepK hk he]
      simpa [wrongs, hm] using g
    | false =>
      rw [hm] at k33
      have he : ∃ fr', exec E (call E (n + 503)) (n + 503) 22 166 n0 (loopB Tryz.f22 0) ⟨[(6, .sl id g 0 l.length), (7, nilS), (8, nilS), (9, .v (.int .i64 (pre.length : Nat)))], H, [], []⟩ = some (.ret, ⟨fr', H, [], []⟩) ∧ AM.get fr' 4 = some nilS ∧ AM.get fr' 5 = some (.v (.bool false)) := by
        rw [exec_code]
        simp -implicitDefEqProofs only [simA, Nat.reduceAdd, Nat.reduceLT, Nat.reduceEqDiff, Nat.reduceLeDiff, Nat.reduceMul, Int.reduceBEq, Int.reduceBNe, Int.reduceLT, Int.reduceLE, Int.reduceAdd, Int.reduceSub, Int.reduceMul, Int.reduceNeg, Nat.reduceSub, Nat.reducePow, Nat.reduceDiv, Nat.reduceMod, Zf22, E_masks, masks, Tryz.f22, hi, a1, b1, hr, hli, hai, k33, w]
        exact ⟨_, rfl, rfl, rfl⟩
      obtain ⟨fr', he, g4, g5⟩ := he
      exact ⟨fr', .inr ⟨by simp [wrongs, hm], loopN_retK hk he, g4, g5⟩⟩

/-! ### Two lists: what was, what is -/
def LV (x : AV) (l : List Route) : Prop := (x = nilS ∧ l = []) ∨ ∃ b, x = .lit 20 b (l.map Route.av)
theorem LV.rv {x : AV} {l : List Route} (v : LV x l) (H : Heap) : RV H x l := by
  rcases v with h | h
  · exact .inl h
  · exact .inr (.inl h)
theorem LV.fit {x : AV} {l : List Route} (v : LV x l) : AM.leafs x = 1 ∧ isTupA x = false ∧ isAggA x = false := by
  rcases v with ⟨rfl, rfl⟩ | ⟨b, rfl⟩ <;> exact ⟨rfl, rfl, rfl⟩

theorem k58 (n : Nat) (h : Heap) (x : AV) (l : List Route) (r : Route) (hr : r.ok) (s : SL l) (v : RV h x l) (hbig : l.length < 490) (hno : has l r.to = false) :
    ∃ y, call E (n + 501) 58 [x, r.av] h = some (y, h, ⟨[], [], true⟩) ∧ LV y (putA l r) := by
  obtain ⟨b, e⟩ := c58n n h x l r hr s.ok v hbig s.sorted hno
  exact ⟨_, e, .inr ⟨b, rfl⟩⟩
theorem k59 (n : Nat) (h : Heap) (x : AV) (l : List Route) (p : Pre) (hp : p.ok) (s : SL l) (v : LV x l) (hbig : l.length < 490) :
    ∃ y, call E (n + 501) 59 [x, p.av] h = some (y, h, ⟨[], [], true⟩) ∧ LV y (dropA l p) := by
  unfold dropA
  cases hh : has l p with
  | true =>
    obtain ⟨b, e⟩ := c59t n h x l p hp s.ok (v.rv h) hbig s.sorted hh
    exact ⟨_, e, .inr ⟨b, rfl⟩⟩
  | false => exact ⟨x, c59n n h x l p hp s.ok (v.rv h) hbig s.sorted hh, by simpa using v⟩

def isF (S : List Route) (i : Inc) : List Route := if i.kind = 3 then dropA S i.r.to else putA (dropA S i.r.to) i.r
theorem SL.isF {S : List Route} (s : SL S) {i : Inc} (hi : i.ok) : SL (isF S i) := by
  unfold Proofs.YtobdjegooonklaaGreat.isF
  split
  · exact s.drop _
  · exact (s.drop _).put hi.2 (has_drop s hi.2.1)
theorem isF_len (S : List Route) (i : Inc) : (isF S i).length ≤ S.length + 1 := by
  have := dropA_len S i.r.to
  unfold isF
  split
  · omega
  · rw [putA_len]; omega
/-- A step of the reference: the change at a place, of all changes. -/
def rstep (l : List Inc) (j : Nat) (i : Inc) (W S : List Route) : Option (List Route × List Route) := match lastN l i.r.to j with
  | some k => match l[k]? with
    | some q => if (q.kind == 3) = (i.kind == 1) then some (W, isF S i) else none
    | none => none
  | none => some (if i.kind = 1 then W else putA W (bare i.r.to), isF S i)

theorem lastN_lt {l : List Inc} {p : Pre} : ∀ {j k : Nat}, lastN l p j = some k → k < j ∧ ∃ q, l[k]? = some q ∧ q.r.to = p
  | 0, k, h => by simp [lastN] at h
  | j + 1, k, h => by
    simp only [lastN] at h
    split at h
    · rename_i i hi
      split at h
      · injection h with h; subst h; rename_i hp; exact ⟨by omega, i, hi, hp⟩
      · obtain ⟨h1, h2⟩ := lastN_lt h; exact ⟨by omega, h2⟩
    · obtain ⟨h1, h2⟩ := lastN_lt h; exact ⟨by omega, h2⟩
theorem lastN_none {l : List Inc} {p : Pre} : ∀ {j : Nat}, lastN l p j = none → ∀ k < j, ∀ q, l[k]? = some q → q.r.to ≠ p
  | 0, _, k, hk, _, _ => by omega
  | j + 1, h, k, hk, q, hq => by
    simp only [lastN] at h
    by_cases hkj : k = j
    · subst hkj
      rw [hq] at h
      simp only at h
      split at h
      · cases h
      · assumption
    · split at h
      · split at h
        · cases h
        · exact lastN_none h k (by omega) q hq
      · exact lastN_none h k (by omega) q hq

/-- What holds of the two lists behind j changes. -/
structure RInv (l : List Inc) (j : Nat) (W S : List Route) : Prop where
  w : SL W
  s : SL S
  wl : W.length ≤ j
  sl : S.length ≤ j
  seen : ∀ r ∈ W, ∃ k < j, ∃ q, l[k]? = some q ∧ q.r.to = r.to

theorem RInv.noW {l : List Inc} {j : Nat} {W S : List Route} (I : RInv l j W S) {p : Pre} (hp : p.ok) (h : lastN l p j = none) : has W p = false := by
  cases hh : has W p with
  | false => rfl
  | true =>
    obtain ⟨r, h1, h2⟩ := has_mem I.w hp hh
    obtain ⟨k, hk, q, hq, hqt⟩ := I.seen r h1
    exact (lastN_none h k hk q hq (by rw [hqt, h2])).elim
theorem RInv.step {l : List Inc} {j : Nat} {W S : List Route} (I : RInv l j W S) {i : Inc} (hi : i.ok) (hj : l[j]? = some i) {W' S' : List Route} (h : rstep l j i W S = some (W', S')) : RInv l (j + 1) W' S' := by
  have hs := isF_len S i
  have up : ∀ r ∈ W, ∃ k < j + 1, ∃ q, l[k]? = some q ∧ q.r.to = r.to := fun r hr => by
    obtain ⟨k, hk, q⟩ := I.seen r hr
    exact ⟨k, by omega, q⟩
  have h1 := I.wl
  have h2 := I.sl
  unfold rstep at h
  split at h
  · split at h
    · split at h
      · simp only [Option.some.injEq, Prod.mk.injEq] at h
        obtain ⟨rfl, rfl⟩ := h
        exact ⟨I.w, I.s.isF hi, by omega, by omega, up⟩
      · cases h
    · cases h
  · rename_i hl
    simp only [Option.some.injEq, Prod.mk.injEq] at h
    obtain ⟨rfl, rfl⟩ := h
    split
    · exact ⟨I.w, I.s.isF hi, by omega, by omega, up⟩
    · refine ⟨I.w.put (bare_ok hi.2.1) (I.noW hi.2.1 hl), I.s.isF hi, by rw [putA_len]; omega, by omega, fun r hr => ?_⟩
      rcases putA_mem.1 hr with rfl | hr
      · exact ⟨j, by omega, i, hj, rfl⟩
      · exact up r hr

end Go.Proofs.YtobdjegooonklaaGreat
