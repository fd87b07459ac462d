/- The reference's Merge: what was and what is: by a program. Conditions: none. -/
import Derived.Test.YtobdjegooonklaaGreatAmRefM3
set_option linter.unusedSimpArgs false
set_option linter.unusedVariables false
set_option maxRecDepth 100000
set_option maxHeartbeats 1000000
namespace Go.Proofs.YtobdjegooonklaaGreat
open Go Go.AM

theorem neb_4 {ox oy : Operand} {a b : Bool} : binE E.P .neq 4 ox oy (.v (.bool a)) (.v (.bool b)) = some (.v (.bool (a != b))) := by cases a <;> cases b <;> rfl

theorem round22b (n n0 : Nat) (H : Heap) (id g : Nat) (l pre rest : List Inc) (i : Inc) (t6 tw ts : AV) (W S : List Route) (hn0 : n0 ≤ H.length) (I6 : In22 id g l t6 H) (hl : pre ++ i :: rest = l) (hok : ∀ i ∈ l, i.ok) (hbig : l.length < 490) (I : RInv l pre.length W S) (vw : LV tw W) (vs : LV ts S) :
    (∃ fr' W' S' tw' ts', rstep l pre.length i W S = some (W', S') ∧ exec E (call E (n + 503)) (n + 503) 22 166 n0 (loopB Tryz.f22 1) ⟨[(6, t6), (7, tw), (8, ts), (9, .v (.int .i64 (l.length : Nat))), (10, .v (.int .i64 (pre.length : Nat)))], H, [], []⟩ = some (.normal, ⟨fr', H ++ [Row.row 18 0 [i.r.to.av] ⟨true, 55⟩], [], []⟩) ∧
      keepF (masks 22) fr' = [(6, t6), (7, tw'), (8, ts'), (9, .v (.int .i64 (l.length : Nat))), (10, .v (.int .i64 ((pre.length + 1 : Nat) : Int)))] ∧ LV tw' W' ∧ LV ts' S') ∨
    (∃ fr', rstep l pre.length i W S = none ∧ exec E (call E (n + 503)) (n + 503) 22 166 n0 (loopB Tryz.f22 1) ⟨[(6, t6), (7, tw), (8, ts), (9, .v (.int .i64 (l.length : Nat))), (10, .v (.int .i64 (pre.length : Nat)))], H, [], []⟩ = some (.ret, ⟨fr', H, [], []⟩) ∧ AM.get fr' 4 = some nilS ∧ AM.get fr' 5 = some (.v (.bool false))) := by
  have hi : ((pre.length : Int) < (l.length : Int)) := by rw [← hl]; simp; omega
  have hne : l ≠ [] := by rw [← hl]; simp
  obtain ⟨rfl, hr⟩ := I6.sl hne
  have hgi : l[pre.length]? = some i := by rw [← hl]; simp
  have hio := hok i (List.mem_of_getElem? hgi)
  obtain ⟨a1, b1⟩ := inc_at hr hgi
  have hpb : pre.length < 490 := by rw [← hl] at hbig; simp at hbig; omega
  have w := wrapN1 (n := pre.length) (by omega)
  have hr1 : (H ++ [Row.row 18 0 [i.r.to.av] ⟨true, 55⟩])[id]? = some (.row 21 g (l.map Inc.av) ⟨false, 60⟩) := by rw [List.getElem?_append_left (lt_of_getElem? hr)]; exact hr
  have a1' := (inc_at (h := H ++ [Row.row 18 0 [i.r.to.av] ⟨true, 55⟩]) hr1 hgi).1
  have nv0 : ∀ q : Inc, nav q.av [0] 0 = some (.v (.int .i64 q.kind)) := fun _ => rfl
  have nv1 : ∀ q : Inc, nav q.av [1] 1 = some q.r.av := fun _ => rfl
  have nv2 : ∀ q : Inc, nav q.av [1, 0] 1 = some q.r.to.av := fun _ => rfl
  have hlr : AM.leafs i.r.av = 20 := Route.leafs hio.2
  have har : isAggA i.r.av = true := rfl
  have hlp : AM.leafs i.r.to.av = 18 := Pre.leafs hio.2.1
  have hap : isAggA i.r.to.av = true := rfl
  have htp : isTupA i.r.to.av = false := rfl
  have hidp : idfree i.r.to.av = true := by simp [Pre.av, idfree, idfreeL, Zfu]
  have hzl : leafsL (List.replicate 16 (AV.v (.int .u8 0))) = 16 := by kernel_rfl
  have hH : ¬ H.length < n0 := by omega
  have k57 := c57 (n + 3) H id g ⟨false, 60⟩ l hok hr hbig pre.length i hgi
  have hwl := I.wl
  have hsl := I.sl
  obtain ⟨y1, d1, v1⟩ := k59 (n + 2) (H ++ [Row.row 18 0 [i.r.to.av] ⟨true, 55⟩]) ts S i.r.to hio.2.1 I.s vs (by omega)
  have hdl := dropA_len S i.r.to
  obtain ⟨y2, d2, v2⟩ := k58 (n + 2) (H ++ [Row.row 18 0 [i.r.to.av] ⟨true, 55⟩]) y1 (dropA S i.r.to) i.r hio.2 (I.s.drop _) (v1.rv _) (by omega) (has_drop I.s hio.2.1)
  simp only [Nat.add_assoc, Nat.reduceAdd] at k57 d1 d2
  cases hlast : lastN l i.r.to pre.length with
  | some k =>
    have hz : lastZ l i.r.to pre.length = (k : Nat) := by simp [lastZ, hlast]
    rw [hz] at k57
    obtain ⟨hk1, q, hq, hqt⟩ := lastN_lt hlast
    obtain ⟨a2, b2⟩ := inc_at hr hq
    have hg0 : (0 : Int) ≤ ((k : Nat) : Int) := by omega
    have hl0 : ¬ (((k : Nat) : Int) < 0) := by omega
    by_cases hb : (q.kind == 3) = (i.kind == 1)
    · left
      have hbb : ((q.kind == 3) != (i.kind == 1)) = false := by simp [hb]
      have hrs : rstep l pre.length i W S = some (W, isF S i) := by simp only [rstep, hlast, hq, if_pos hb]
      by_cases h3 : i.kind = 3
      · have b3 : (i.kind != 3) = false := by simp [h3]
        have : ∃ fr', exec E (call E (n + 503)) (n + 503) 22 166 n0 (loopB Tryz.f22 1) ⟨[(6, .sl id g 0 l.length), (7, tw), (8, ts), (9, .v (.int .i64 (l.length : Nat))), (10, .v (.int .i64 (pre.length : Nat)))], H, [], []⟩ = some (.normal, ⟨fr', H ++ [Row.row 18 0 [i.r.to.av] ⟨true, 55⟩], [], []⟩) ∧ keepF (masks 22) fr' = [(6, .sl id g 0 l.length), (7, tw), (8, y1), (9, .v (.int .i64 (l.length : Nat))), (10, .v (.int .i64 ((pre.length + 1 : Nat) : Int)))] := by
          rw [exec_code]
          simp -implicitDefEqProofs only [simA, Nat.reduceAdd, Nat.reduceLT, Nat.reduceEqDiff, Nat.reduceLeDiff, Nat.reduceMul, Int.reduceBEq, Int.reduceBNe, Int.reduceLT, Int.reduceLE, Int.reduceAdd, Int.reduceSub, Int.reduceMul, Int.reduceNeg, Nat.reduceSub, Nat.reducePow, Nat.reduceDiv, Nat.reduceMod, Zf22, E_masks, masks, Tryz.f22, storeE, hi, a1, a1', b1, hr, hr1, nv0, nv1, nv2, hlr, har, hlp, hap, htp, hidp, hzl, hH, k57, w, neb_4, a2, b2, hg0, hl0, hbb, b3, d1, pairsOK, clsOf, compat]
          exact ⟨_, rfl, rfl⟩
        obtain ⟨fr', e1, e2⟩ := this
        exact ⟨fr', _, _, tw, y1, hrs, e1, e2, vw, by unfold isF; rw [if_pos h3]; exact v1⟩
      · have b3 : (i.kind != 3) = true := by simp [h3]
        have : ∃ fr', exec E (call E (n + 503)) (n + 503) 22 166 n0 (loopB Tryz.f22 1) ⟨[(6, .sl id g 0 l.length), (7, tw), (8, ts), (9, .v (.int .i64 (l.length : Nat))), (10, .v (.int .i64 (pre.length : Nat)))], H, [], []⟩ = some (.normal, ⟨fr', H ++ [Row.row 18 0 [i.r.to.av] ⟨true, 55⟩], [], []⟩) ∧ keepF (masks 22) fr' = [(6, .sl id g 0 l.length), (7, tw), (8, y2), (9, .v (.int .i64 (l.length : Nat))), (10, .v (.int .i64 ((pre.length + 1 : Nat) : Int)))] := by
          rw [exec_code]
          simp -implicitDefEqProofs only [simA, Nat.reduceAdd, Nat.reduceLT, Nat.reduceEqDiff, Nat.reduceLeDiff, Nat.reduceMul, Int.reduceBEq, Int.reduceBNe, Int.reduceLT, Int.reduceLE, Int.reduceAdd, Int.reduceSub, Int.reduceMul, Int.reduceNeg, Nat.reduceSub, Nat.reducePow, Nat.reduceDiv, Nat.reduceMod, Zf22, E_masks, masks, Tryz.f22, storeE, hi, a1, a1', b1, hr, hr1, nv0, nv1, nv2, hlr, har, hlp, hap, htp, hidp, hzl, hH, k57, w, neb_4, a2, b2, hg0, hl0, hbb, b3, d1, d2, pairsOK, clsOf, compat]
          exact ⟨_, rfl, rfl⟩
        obtain ⟨fr', e1, e2⟩ := this
        exact ⟨fr', _, _, tw, y2, hrs, e1, e2, vw, by unfold isF; rw [if_neg h3]; exact v2⟩
    · right
      have hbb : ((q.kind == 3) != (i.kind == 1)) = true := by simp [hb]
      have hrs : rstep l pre.length i W S = none := by simp only [rstep, hlast, hq, if_neg hb]
      have : ∃ fr', exec E (call E (n + 503)) (n + 503) 22 166 n0 (loopB Tryz.f22 1) ⟨[(6, .sl id g 0 l.length), (7, tw), (8, ts), (9, .v (.int .i64 (l.length : Nat))), (10, .v (.int .i64 (pre.length : Nat)))], H, [], []⟩ = some (.ret, ⟨fr', H, [], []⟩) ∧ AM.get fr' 4 = some nilS ∧ AM.get fr' 5 = some (.v (.bool false)) := by
        rw [exec_code]
        simp -implicitDefEqProofs only [simA, Nat.reduceAdd, Nat.reduceLT, Nat.reduceEqDiff, Nat.reduceLeDiff, Nat.reduceMul, Int.reduceBEq, Int.reduceBNe, Int.reduceLT, Int.reduceLE, Int.reduceAdd, Int.reduceSub, Int.reduceMul, Int.reduceNeg, Nat.reduceSub, Nat.reducePow, Nat.reduceDiv, Nat.reduceMod, Zf22, E_masks, masks, Tryz.f22, storeE, hi, a1, a1', b1, hr, hr1, nv0, nv1, nv2, hlr, har, hlp, hap, htp, hidp, hzl, hH, k57, w, neb_4, a2, b2, hg0, hl0, hbb, pairsOK, clsOf, compat]
        exact ⟨_, rfl, rfl, rfl⟩
      obtain ⟨fr', e1, e2, e3⟩ := this
      exact ⟨fr', hrs, e1, e2, e3⟩
  | none =>
    have hz : lastZ l i.r.to pre.length = -1 := by simp [lastZ, hlast]
    rw [hz] at k57
    left
    by_cases h1 : i.kind = 1
    · have hrs : rstep l pre.length i W S = some (W, isF S i) := by simp only [rstep, hlast, if_pos h1]
      have h3 : i.kind ≠ 3 := by omega
      have c1 : (i.kind != 1) = false := by simp [h1]
      have b3 : (i.kind != 3) = true := by simp [h3]
      have : ∃ fr', exec E (call E (n + 503)) (n + 503) 22 166 n0 (loopB Tryz.f22 1) ⟨[(6, .sl id g 0 l.length), (7, tw), (8, ts), (9, .v (.int .i64 (l.length : Nat))), (10, .v (.int .i64 (pre.length : Nat)))], H, [], []⟩ = some (.normal, ⟨fr', H ++ [Row.row 18 0 [i.r.to.av] ⟨true, 55⟩], [], []⟩) ∧ keepF (masks 22) fr' = [(6, .sl id g 0 l.length), (7, tw), (8, y2), (9, .v (.int .i64 (l.length : Nat))), (10, .v (.int .i64 ((pre.length + 1 : Nat) : Int)))] := by
        rw [exec_code]
        simp -implicitDefEqProofs only [simA, Nat.reduceAdd, Nat.reduceLT, Nat.reduceEqDiff, Nat.reduceLeDiff, Nat.reduceMul, Int.reduceBEq, Int.reduceBNe, Int.reduceLT, Int.reduceLE, Int.reduceAdd, Int.reduceSub, Int.reduceMul, Int.reduceNeg, Nat.reduceSub, Nat.reducePow, Nat.reduceDiv, Nat.reduceMod, Zf22, E_masks, masks, Tryz.f22, storeE, hi, a1, a1', b1, hr, hr1, nv0, nv1, nv2, hlr, har, hlp, hap, htp, hidp, hzl, hH, k57, w, neb_4, c1, b3, d1, d2, pairsOK, clsOf, compat]
        exact ⟨_, rfl, rfl⟩
      obtain ⟨fr', e1, e2⟩ := this
      exact ⟨fr', _, _, tw, y2, hrs, e1, e2, vw, by unfold isF; rw [if_neg h3]; exact v2⟩
    · have hrs : rstep l pre.length i W S = some (putA W (bare i.r.to), isF S i) := by simp only [rstep, hlast, if_neg h1]
      have c1 : (i.kind != 1) = true := by simp [h1]
      obtain ⟨y3, d3, v3⟩ := k58 (n + 2) (H ++ [Row.row 18 0 [i.r.to.av] ⟨true, 55⟩]) tw W (bare i.r.to) (bare_ok hio.2.1) I.w (vw.rv _) (by omega) (I.noW hio.2.1 hlast)
      simp only [Nat.add_assoc, Nat.reduceAdd] at d3
      have d3' : call E (n + 503) 58 [tw, .agg [i.r.to.av, .v (.int .i64 0), .v (.int .u32 0)]] (H ++ [Row.row 18 0 [i.r.to.av] ⟨true, 55⟩]) = some (y3, H ++ [Row.row 18 0 [i.r.to.av] ⟨true, 55⟩], ⟨[], [], true⟩) := d3
      by_cases h3 : i.kind = 3
      · have b3 : (i.kind != 3) = false := by simp [h3]
        have : ∃ fr', exec E (call E (n + 503)) (n + 503) 22 166 n0 (loopB Tryz.f22 1) ⟨[(6, .sl id g 0 l.length), (7, tw), (8, ts), (9, .v (.int .i64 (l.length : Nat))), (10, .v (.int .i64 (pre.length : Nat)))], H, [], []⟩ = some (.normal, ⟨fr', H ++ [Row.row 18 0 [i.r.to.av] ⟨true, 55⟩], [], []⟩) ∧ keepF (masks 22) fr' = [(6, .sl id g 0 l.length), (7, y3), (8, y1), (9, .v (.int .i64 (l.length : Nat))), (10, .v (.int .i64 ((pre.length + 1 : Nat) : Int)))] := by
          rw [exec_code]
          simp -implicitDefEqProofs only [simA, Nat.reduceAdd, Nat.reduceLT, Nat.reduceEqDiff, Nat.reduceLeDiff, Nat.reduceMul, Int.reduceBEq, Int.reduceBNe, Int.reduceLT, Int.reduceLE, Int.reduceAdd, Int.reduceSub, Int.reduceMul, Int.reduceNeg, Nat.reduceSub, Nat.reducePow, Nat.reduceDiv, Nat.reduceMod, Zf22, E_masks, masks, Tryz.f22, storeE, hi, a1, a1', b1, hr, hr1, nv0, nv1, nv2, hlr, har, hlp, hap, htp, hidp, hzl, hH, k57, w, neb_4, c1, b3, d3', d1, pairsOK, clsOf, compat]
          exact ⟨_, rfl, rfl⟩
        obtain ⟨fr', e1, e2⟩ := this
        exact ⟨fr', _, _, y3, y1, hrs, e1, e2, v3, by unfold isF; rw [if_pos h3]; exact v1⟩
      · have b3 : (i.kind != 3) = true := by simp [h3]
        have : ∃ fr', exec E (call E (n + 503)) (n + 503) 22 166 n0 (loopB Tryz.f22 1) ⟨[(6, .sl id g 0 l.length), (7, tw), (8, ts), (9, .v (.int .i64 (l.length : Nat))), (10, .v (.int .i64 (pre.length : Nat)))], H, [], []⟩ = some (.normal, ⟨fr', H ++ [Row.row 18 0 [i.r.to.av] ⟨true, 55⟩], [], []⟩) ∧ keepF (masks 22) fr' = [(6, .sl id g 0 l.length), (7, y3), (8, y2), (9, .v (.int .i64 (l.length : Nat))), (10, .v (.int .i64 ((pre.length + 1 : Nat) : Int)))] := by
          rw [exec_code]
          simp -implicitDefEqProofs only [simA, Nat.reduceAdd, Nat.reduceLT, Nat.reduceEqDiff, Nat.reduceLeDiff, Nat.reduceMul, Int.reduceBEq, Int.reduceBNe, Int.reduceLT, Int.reduceLE, Int.reduceAdd, Int.reduceSub, Int.reduceMul, Int.reduceNeg, Nat.reduceSub, Nat.reducePow, Nat.reduceDiv, Nat.reduceMod, Zf22, E_masks, masks, Tryz.f22, storeE, hi, a1, a1', b1, hr, hr1, nv0, nv1, nv2, hlr, har, hlp, hap, htp, hidp, hzl, hH, k57, w, neb_4, c1, b3, d3', d1, d2, pairsOK, clsOf, compat]
          exact ⟨_, rfl, rfl⟩
        obtain ⟨fr', e1, e2⟩ := this
        exact ⟨fr', _, _, y3, y2, hrs, e1, e2, v3, by unfold isF; rw [if_neg h3]; exact v2⟩

end Go.Proofs.YtobdjegooonklaaGreat
