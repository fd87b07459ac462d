/- The reference's Merge: what it answers. Conditions: none. -/
import Derived.Test.YtobdjegooonklaaGreatAmRefM4
set_option linter.unusedSimpArgs false
set_option linter.unusedVariables false
set_option maxRecDepth 100000
set_option maxHeartbeats 1000000
namespace Go.Proofs.YtobdjegooonklaaGreat
open Go Go.AM

def rfold (l : List Inc) : List Inc → Nat → List Route → List Route → Option (List Route × List Route)
  | [], _, W, S => some (W, S)
  | i :: rest, j, W, S => match rstep l j i W S with
    | some (W', S') => rfold l rest (j + 1) W' S'
    | none => none

theorem loop22b (n n0 : Nat) (id g : Nat) (l : List Inc) (t6 : AV) (hok : ∀ i ∈ l, i.ok) (hbig : l.length < 490) : ∀ (rest pre : List Inc) (j : Nat) (fr : FR) (H : Heap) (tw ts : AV) (W S : List Route), pre ++ rest = l → rest.length < j → n0 ≤ H.length → In22 id g l t6 H → RInv l pre.length W S → LV tw W → LV ts S →
    keepF (masks 22) fr = [(6, t6), (7, tw), (8, ts), (9, .v (.int .i64 (l.length : Nat))), (10, .v (.int .i64 (pre.length : Nat)))] →
    (∃ fr' H' W' S' tw' ts', rfold l rest pre.length W S = some (W', S') ∧ loopN (exec E (call E (n + 503)) (n + 503) 22 166 n0 (loopB Tryz.f22 1)) (masks 22) j ⟨fr, H, [], []⟩ = some (.exit 2, ⟨fr', H', [], []⟩) ∧ AM.get fr' 6 = some t6 ∧ AM.get fr' 7 = some tw' ∧ AM.get fr' 8 = some ts' ∧ AM.get fr' 9 = some (.v (.int .i64 (l.length : Nat))) ∧ AM.get fr' 10 = some (.v (.int .i64 (l.length : Nat))) ∧ AM.get fr' 13 = none ∧ AM.get fr' 14 = none ∧ AM.get fr' 15 = none ∧ AM.get fr' 16 = none ∧
      n0 ≤ H'.length ∧ RInv l l.length W' S' ∧ LV tw' W' ∧ LV ts' S') ∨
    (∃ fr' H', rfold l rest pre.length W S = none ∧ loopN (exec E (call E (n + 503)) (n + 503) 22 166 n0 (loopB Tryz.f22 1)) (masks 22) j ⟨fr, H, [], []⟩ = some (.ret, ⟨fr', H', [], []⟩) ∧ AM.get fr' 4 = some nilS ∧ AM.get fr' 5 = some (.v (.bool false)))
  | [], pre, j, fr, H, tw, ts, W, S, hl, hj, hn0, I6, I, vw, vs, hk => by
    obtain ⟨j, rfl⟩ : ∃ i, j = i + 1 := ⟨j - 1, by omega⟩
    have hpl : pre.length = l.length := by rw [← hl]; simp
    have hi : ¬ ((pre.length : Int) < (l.length : Int)) := by omega
    have hlen := I6.len
    have he : ∃ fr', exec E (call E (n + 503)) (n + 503) 22 166 n0 (loopB Tryz.f22 1) ⟨[(6, t6), (7, tw), (8, ts), (9, .v (.int .i64 (l.length : Nat))), (10, .v (.int .i64 (pre.length : Nat)))], H, [], []⟩ = some (.exit 2, ⟨fr', H, [], []⟩) ∧ AM.get fr' 6 = some t6 ∧ AM.get fr' 7 = some tw ∧ AM.get fr' 8 = some ts ∧ AM.get fr' 9 = some (.v (.int .i64 (l.length : Nat))) ∧ AM.get fr' 10 = some (.v (.int .i64 (pre.length : Nat))) ∧ AM.get fr' 13 = none ∧ AM.get fr' 14 = none ∧ AM.get fr' 15 = none ∧ AM.get fr' 16 = none := by
      rw [exec_code]
      simp -implicitDefEqProofs only [simA, Nat.reduceAdd, Nat.reduceLT, Nat.reduceEqDiff, Nat.reduceLeDiff, Nat.reduceMul, Int.reduceBEq, Int.reduceBNe, Int.reduceLT, Int.reduceLE, Int.reduceAdd, Int.reduceSub, Int.reduceMul, Int.reduceNeg, Nat.reduceSub, Nat.reducePow, Nat.reduceDiv, Nat.reduceMod, Zf22, E_masks, masks, Tryz.f22, hi, hlen]
      exact ⟨_, rfl, rfl, rfl, rfl, rfl, rfl, rfl, rfl, rfl, rfl⟩
    obtain ⟨fr', he, g6, g7, g8, g9, g10, g13, g14, g15, g16⟩ := he
    rw [hpl] at g10
    exact .inl ⟨fr', H, W, S, tw, ts, rfl, loopN_outK hk he, g6, g7, g8, g9, g10, g13, g14, g15, g16, hn0, by rw [← hpl]; exact I, vw, vs⟩
  | i :: rest, pre, j, fr, H, tw, ts, W, S, hl, hj, hn0, I6, I, vw, vs, hk => by
    obtain ⟨j, rfl⟩ : ∃ i, j = i + 1 := ⟨j - 1, by simp at hj; omega⟩
    have hgi : l[pre.length]? = some i := by rw [← hl]; simp
    have hio := hok i (List.mem_of_getElem? hgi)
    rcases round22b n n0 H id g l pre rest i t6 tw ts W S hn0 I6 hl hok hbig I vw vs with ⟨fr1, W1, S1, tw1, ts1, q1, e1, k1, v1, u1⟩ | ⟨fr1, q1, e1, g4, g5⟩
    · have I1 := I.step hio hgi q1
      have := loop22b n n0 id g l t6 hok hbig rest (pre ++ [i]) j fr1 (H ++ [Row.row 18 0 [i.r.to.av] ⟨true, 55⟩]) tw1 ts1 W1 S1 (by rw [← hl]; simp) (by simp at hj; omega) (by simp; omega) (I6.push _) (by simpa using I1) v1 u1 (by rw [k1]; simp)
      rw [loopN_stepK hk e1]
      simp only [rfold, q1]
      simpa using this
    · exact .inr ⟨fr1, H, by simp only [rfold, q1], loopN_retK hk e1, g4, g5⟩

/-! ### All prefixes -/
def allF : List Route → List Route → List Route
  | A, [] => A
  | A, w :: W => allF (if has A w.to = true then A else putA A w) W

theorem loop22c (n n0 : Nat) (H : Heap) (t6 tw ts : AV) (W : List Route) (len : Int) (sw : SL W) (vw : LV tw W) (hw : W.length < 240) : ∀ (rest pre : List Route) (j : Nat) (fr : FR) (A : List Route) (t14 : AV), pre ++ rest = W → rest.length < j → SL A → RV H t14 A → A.length + rest.length < 490 →
    keepF (masks 22) fr = [(6, t6), (7, tw), (8, ts), (9, .v (.int .i64 len)), (10, .v (.int .i64 len)), (13, nilS), (14, t14), (15, .v (.int .i64 (pre.length : Nat)))] →
    ∃ fr' t', loopN (exec E (call E (n + 503)) (n + 503) 22 166 n0 (loopB Tryz.f22 2)) (masks 22) j ⟨fr, H, [], []⟩ = some (.exit 4, ⟨fr', H, [], []⟩) ∧ AM.get fr' 6 = some t6 ∧ AM.get fr' 7 = some tw ∧ AM.get fr' 8 = some ts ∧ AM.get fr' 9 = some (.v (.int .i64 len)) ∧ AM.get fr' 10 = some (.v (.int .i64 len)) ∧ AM.get fr' 13 = some nilS ∧ AM.get fr' 14 = some t' ∧ AM.get fr' 15 = some (.v (.int .i64 (W.length : Nat))) ∧ AM.get fr' 16 = none ∧ SL (allF A rest) ∧ RV H t' (allF A rest) ∧ (allF A rest).length ≤ A.length + rest.length
  | [], pre, j, fr, A, t14, hl, hj, sA, vA, hlen, hk => by
    obtain ⟨j, rfl⟩ : ∃ i, j = i + 1 := ⟨j - 1, by omega⟩
    have hpl : pre.length = W.length := by rw [← hl]; simp
    have hi : ¬ ((pre.length : Int) < (W.length : Int)) := by omega
    have hlw := (vw.rv H).len
    have he : ∃ fr', exec E (call E (n + 503)) (n + 503) 22 166 n0 (loopB Tryz.f22 2) ⟨[(6, t6), (7, tw), (8, ts), (9, .v (.int .i64 len)), (10, .v (.int .i64 len)), (13, nilS), (14, t14), (15, .v (.int .i64 (pre.length : Nat)))], H, [], []⟩ = some (.exit 4, ⟨fr', H, [], []⟩) ∧ AM.get fr' 6 = some t6 ∧ AM.get fr' 7 = some tw ∧ AM.get fr' 8 = some ts ∧ AM.get fr' 9 = some (.v (.int .i64 len)) ∧ AM.get fr' 10 = some (.v (.int .i64 len)) ∧ AM.get fr' 13 = some nilS ∧ AM.get fr' 14 = some t14 ∧ AM.get fr' 15 = some (.v (.int .i64 (pre.length : Nat))) ∧ AM.get fr' 16 = none := by
      rw [exec_code]
      simp -implicitDefEqProofs only [simA, Nat.reduceAdd, Nat.reduceLT, Nat.reduceEqDiff, Nat.reduceLeDiff, Nat.reduceMul, Int.reduceBEq, Int.reduceBNe, Int.reduceLT, Int.reduceLE, Int.reduceAdd, Int.reduceSub, Int.reduceMul, Int.reduceNeg, Nat.reduceSub, Nat.reducePow, Nat.reduceDiv, Nat.reduceMod, Zf22, E_masks, masks, Tryz.f22, hi, hlw]
      exact ⟨_, rfl, rfl, rfl, rfl, rfl, rfl, rfl, rfl, rfl, rfl⟩
    obtain ⟨fr', he, g6, g7, g8, g9, g10, g13, g14, g15, g16⟩ := he
    rw [hpl] at g15
    exact ⟨fr', t14, loopN_outK hk he, g6, g7, g8, g9, g10, g13, g14, g15, g16, sA, vA, by simp [allF]⟩
  | r :: rest, pre, j, fr, A, t14, hl, hj, sA, vA, hlen, hk => by
    obtain ⟨j, rfl⟩ : ∃ i, j = i + 1 := ⟨j - 1, by simp at hj; omega⟩
    simp only [List.length_cons] at hlen hj
    have hi : ((pre.length : Int) < (W.length : Int)) := by rw [← hl]; simp; omega
    have hlw := (vw.rv H).len
    have hgr : W[pre.length]? = some r := by rw [← hl]; simp
    have hro := sw.ok r (List.mem_of_getElem? hgr)
    have w := wrapN1 (n := pre.length) (by rw [← hl] at hw; simp at hw; omega)
    have lr : AM.leafs r.av = 20 := Route.leafs hro
    have lrt : AM.leafs r.to.av = 18 := Pre.leafs hro.1
    have ir : isAggA r.av = true := rfl
    have irt : isAggA r.to.av = true := rfl
    have k60 := c60f (n + 3) H t14 A r.to hro.1 sA.ok vA (by omega) sA.sorted
    simp only [Nat.add_assoc, Nat.reduceAdd] at k60
    rcases vw with ⟨rfl, rfl⟩ | ⟨b, rfl⟩
    · simp at hgr
    · have a1 := lit_at (h := H) (b := b) hgr
      cases hh : has A r.to with
      | true =>
        have hf : findT A r.to = ((pos A r.to : Nat) : Int) := by simp [findT, hh]
        have h0 : ¬ (((pos A r.to : Nat) : Int) < 0) := by omega
        rw [hf] at k60
        have he : ∃ fr', exec E (call E (n + 503)) (n + 503) 22 166 n0 (loopB Tryz.f22 2) ⟨[(6, t6), (7, .lit 20 b (W.map Route.av)), (8, ts), (9, .v (.int .i64 len)), (10, .v (.int .i64 len)), (13, nilS), (14, t14), (15, .v (.int .i64 (pre.length : Nat)))], H, [], []⟩ = some (.normal, ⟨fr', H, [], []⟩) ∧ keepF (masks 22) fr' = [(6, t6), (7, .lit 20 b (W.map Route.av)), (8, ts), (9, .v (.int .i64 len)), (10, .v (.int .i64 len)), (13, nilS), (14, t14), (15, .v (.int .i64 ((pre.length + 1 : Nat) : Int)))] := by
          rw [exec_code]
          simp -implicitDefEqProofs only [simF, Nat.reduceAdd, Nat.reduceLT, Nat.reduceEqDiff, Nat.reduceLeDiff, Nat.reduceMul, Int.reduceBEq, Int.reduceBNe, Int.reduceLT, Int.reduceLE, Int.reduceAdd, Int.reduceSub, Int.reduceMul, Int.reduceNeg, Nat.reduceSub, Nat.reducePow, Nat.reduceDiv, Nat.reduceMod, Zf22, E_masks, masks, Tryz.f22, hi, hlw, a1, fa_rop, lrt, irt, lr, ir, k60, h0, w]
          exact ⟨_, rfl, rfl⟩
        obtain ⟨fr1, e1, k1⟩ := he
        rw [loopN_stepK hk e1]
        have e2 : allF A (r :: rest) = allF A rest := by simp [allF, hh]
        rw [e2]
        obtain ⟨fr', t', g⟩ := loop22c n n0 H t6 _ ts W len sw (.inr ⟨b, rfl⟩) hw rest (pre ++ [r]) j fr1 A t14 (by rw [← hl]; simp) (by omega) sA vA (by omega) (by rw [k1]; simp)
        refine ⟨fr', t', ?_⟩
        obtain ⟨g1, g2, g3, g4, g5, g6, g7, g8, g9, g10, g11, g12, g13⟩ := g
        exact ⟨g1, g2, g3, g4, g5, g6, g7, g8, g9, g10, g11, g12, by simp only [List.length_cons]; omega⟩
      | false =>
        have hf : findT A r.to = -1 := by simp [findT, hh]
        rw [hf] at k60
        obtain ⟨y, d, v⟩ := k58 (n + 2) H t14 A r hro sA vA (by omega) hh
        simp only [Nat.add_assoc, Nat.reduceAdd] at d
        have he : ∃ fr', exec E (call E (n + 503)) (n + 503) 22 166 n0 (loopB Tryz.f22 2) ⟨[(6, t6), (7, .lit 20 b (W.map Route.av)), (8, ts), (9, .v (.int .i64 len)), (10, .v (.int .i64 len)), (13, nilS), (14, t14), (15, .v (.int .i64 (pre.length : Nat)))], H, [], []⟩ = some (.normal, ⟨fr', H, [], []⟩) ∧ keepF (masks 22) fr' = [(6, t6), (7, .lit 20 b (W.map Route.av)), (8, ts), (9, .v (.int .i64 len)), (10, .v (.int .i64 len)), (13, nilS), (14, y), (15, .v (.int .i64 ((pre.length + 1 : Nat) : Int)))] := by
          rw [exec_code]
          simp -implicitDefEqProofs only [simF, Nat.reduceAdd, Nat.reduceLT, Nat.reduceEqDiff, Nat.reduceLeDiff, Nat.reduceMul, Int.reduceBEq, Int.reduceBNe, Int.reduceLT, Int.reduceLE, Int.reduceAdd, Int.reduceSub, Int.reduceMul, Int.reduceNeg, Nat.reduceSub, Nat.reducePow, Nat.reduceDiv, Nat.reduceMod, Zf22, E_masks, masks, Tryz.f22, hi, hlw, a1, fa_rop, lrt, irt, lr, ir, k60, d, w]
          exact ⟨_, rfl, rfl⟩
        obtain ⟨fr1, e1, k1⟩ := he
        rw [loopN_stepK hk e1]
        have e2 : allF A (r :: rest) = allF (putA A r) rest := by simp [allF, hh]
        rw [e2]
        have hpl := putA_len A r
        obtain ⟨fr', t', g⟩ := loop22c n n0 H t6 _ ts W len sw (.inr ⟨b, rfl⟩) hw rest (pre ++ [r]) j fr1 (putA A r) y (by rw [← hl]; simp) (by omega) (sA.put hro hh) (v.rv H) (by omega) (by rw [k1]; simp)
        refine ⟨fr', t', ?_⟩
        obtain ⟨g1, g2, g3, g4, g5, g6, g7, g8, g9, g10, g11, g12, g13⟩ := g
        exact ⟨g1, g2, g3, g4, g5, g6, g7, g8, g9, g10, g11, g12, by simp only [List.length_cons]; omega⟩

/-! ### What is answered -/
def emitR (S W : List Route) (p : Pre) : Inc := if has S p = true then ⟨if has W p = true then 2 else 1, (S[pos S p]?).getD (bare p)⟩ else ⟨3, bare p⟩

theorem RV.at_to {h : Heap} {x : AV} {l : List Route} (s : RV h x l) {j : Nat} {r : Route} (hy : l[j]? = some r) :
    ∃ a b, indexAddrE E.P h 36 x (.v (.int .i64 (j : Nat))) = some a ∧ fieldAddrE E.P 58 a 0 = some b ∧ lookAt h b = some r.to.av := by
  rcases s with ⟨rfl, rfl⟩ | ⟨b, rfl⟩ | ⟨id, g, els, ex, rfl, hr, ht⟩
  · simp at hy
  · exact ⟨_, _, lit_at hy, fa_rop r, rfl⟩
  · obtain ⟨e1, e2⟩ := sl_at hr ht hy
    refine ⟨_, _, e1, fa_ptr, ?_⟩
    have : nav r.av [0] 0 = some r.to.av := rfl
    simp [lookAt, hr, e2, beqE, this]

theorem round22d (n n0 m0 : Nat) (H : Heap) (t6 tw ts t13 t14 : AV) (W S A : List Route) (out : List Inc) (len len2 : Int) (pre rest : List Route) (r : Route) (hl : pre ++ r :: rest = A) (hn0 : n0 ≤ m0) (hm0 : m0 ≤ H.length) (sW : SL W) (sS : SL S) (sA : SL A) (vw : LV tw W) (vs : LV ts S) (vA : RV H t14 A) (hW : W.length < 490) (hS : S.length < 490) (hA : A.length < 490) (hol : out.length < 490) (o : OutI m0 H (out.map Inc.av) t13) :
    ∃ fr' H' t', exec E (call E (n + 503)) (n + 503) 22 166 n0 (loopB Tryz.f22 3) ⟨[(6, t6), (7, tw), (8, ts), (9, .v (.int .i64 len)), (10, .v (.int .i64 len)), (13, t13), (14, t14), (15, .v (.int .i64 len2)), (16, .v (.int .i64 (pre.length : Nat)))], H, [], []⟩ = some (.normal, ⟨fr', H', [], []⟩) ∧
      keepF (masks 22) fr' = [(6, t6), (7, tw), (8, ts), (9, .v (.int .i64 len)), (10, .v (.int .i64 len)), (13, t'), (14, t14), (15, .v (.int .i64 len2)), (16, .v (.int .i64 ((pre.length + 1 : Nat) : Int)))] ∧
      OutI m0 H' ((out ++ [emitR S W r.to]).map Inc.av) t' ∧ m0 ≤ H'.length ∧ ∀ j, j < m0 → H'[j]? = H[j]? := by
  have hi : ((pre.length : Int) < (A.length : Int)) := by rw [← hl]; simp; omega
  have hlA := vA.len
  have hgr : A[pre.length]? = some r := by rw [← hl]; simp
  have hro := sA.ok r (List.mem_of_getElem? hgr)
  have w := wrapN1 (n := pre.length) (by omega)
  have lrt : AM.leafs r.to.av = 18 := Pre.leafs hro.1
  have irt : isAggA r.to.av = true := rfl
  have trt : isTupA r.to.av = false := rfl
  have hidp : idfree r.to.av = true := by simp [Pre.av, idfree, idfreeL, Zfu]
  have hzl : leafsL (List.replicate 16 (AV.v (.int .u8 0))) = 16 := by kernel_rfl
  have hH : ¬ H.length < n0 := by omega
  obtain ⟨a, b, a1, a2, a3⟩ := vA.at_to hgr
  have kS := c60f (n + 3) (H ++ [Row.row 18 0 [r.to.av] ⟨true, 55⟩]) ts S r.to hro.1 sS.ok (vs.rv _) hS sS.sorted
  have kW := c60f (n + 3) (H ++ [Row.row 18 0 [r.to.av] ⟨true, 55⟩]) tw W r.to hro.1 sW.ok (vw.rv _) hW sW.sorted
  simp only [Nat.add_assoc, Nat.reduceAdd] at kS kW
  have hsl : sliceLen t13 = some out.length := by rw [o.len]; simp
  have hby : (out.length + 1) * 56 ≤ 140737488355328 := by omega
  have o2 := o.push [Row.row 18 0 [r.to.av] ⟨true, 55⟩]
  have key : ∀ (k : Int) (q : Route), ∃ x' H' s c, appendTo (H ++ [Row.row 18 0 [r.to.av] ⟨true, 55⟩]) 60 21 t13 [.agg [.v (.int .i64 k), q.av]] = some (x', H', s, c) ∧ (s = none ∨ ∃ id, m0 ≤ id ∧ s = some (id, false)) ∧ OutI m0 H' ((out ++ [(⟨k, q⟩ : Inc)]).map Inc.av) x' ∧ m0 ≤ H'.length ∧ ∀ j, j < m0 → H'[j]? = H[j]? := fun k q => by
    obtain ⟨x', H', s, c, b1, b2, b3, b4, b5⟩ := o2.app (by simp; omega) (.agg [.v (.int .i64 k), q.av]) (idfree_inc ⟨k, q⟩)
    refine ⟨x', H', s, c, b1, b2, by rw [List.map_append]; exact b3, b4, fun j hj => ?_⟩
    rw [b5 j hj, List.getElem?_append_left (by omega)]
  rw [exec_code]
  cases hS1 : has S r.to with
  | false =>
    have hf : findT S r.to = -1 := by simp [findT, hS1]
    rw [hf] at kS
    have hem : emitR S W r.to = ⟨3, bare r.to⟩ := by simp [emitR, hS1]
    obtain ⟨x', H', s, c, b1, b2, b3, b4, b5⟩ := key 3 (bare r.to)
    have b1' : appendTo (H ++ [Row.row 18 0 [r.to.av] ⟨true, 55⟩]) 60 21 t13 [.agg [.v (.int .i64 3), .agg [r.to.av, .v (.int .i64 0), .v (.int .u32 0)]]] = some (x', H', s, c) := b1
    rcases b2 with rfl | ⟨id, hid, rfl⟩
    · simp -implicitDefEqProofs only [simF, Nat.reduceAdd, Nat.reduceLT, Nat.reduceEqDiff, Nat.reduceLeDiff, Nat.reduceMul, Int.reduceBEq, Int.reduceBNe, Int.reduceLT, Int.reduceLE, Int.reduceAdd, Int.reduceSub, Int.reduceMul, Int.reduceNeg, Nat.reduceSub, Nat.reducePow, Nat.reduceDiv, Nat.reduceMod, Zf22, E_masks, masks, Tryz.f22, storeE, hi, hlA, a1, a2, a3, lrt, irt, trt, hidp, hzl, hH, kS, hsl, hby, b1', w]
      exact ⟨_, _, _, rfl, rfl, by rw [hem]; exact b3, b4, b5⟩
    · have hd : ¬ id < n0 := by omega
      simp -implicitDefEqProofs only [simF, Nat.reduceAdd, Nat.reduceLT, Nat.reduceEqDiff, Nat.reduceLeDiff, Nat.reduceMul, Int.reduceBEq, Int.reduceBNe, Int.reduceLT, Int.reduceLE, Int.reduceAdd, Int.reduceSub, Int.reduceMul, Int.reduceNeg, Nat.reduceSub, Nat.reducePow, Nat.reduceDiv, Nat.reduceMod, Zf22, E_masks, masks, Tryz.f22, storeE, hi, hlA, a1, a2, a3, lrt, irt, trt, hidp, hzl, hH, kS, hsl, hby, b1', hd, w]
      exact ⟨_, _, _, rfl, rfl, by rw [hem]; exact b3, b4, b5⟩
  | true =>
    have hf : findT S r.to = ((pos S r.to : Nat) : Int) := by simp [findT, hS1]
    rw [hf] at kS
    have h0 : ¬ (((pos S r.to : Nat) : Int) < 0) := by omega
    obtain ⟨q, hq, hqt⟩ := has_some sS.ok hro.1 hS1
    have hqo := sS.ok q (List.mem_of_getElem? hq)
    have lq : AM.leafs q.av = 20 := Route.leafs hqo
    have iq : isAggA q.av = true := rfl
    have tq : isTupA q.av = false := rfl
    rcases vs with ⟨rfl, rfl⟩ | ⟨bs, rfl⟩
    · simp at hq
    · have c1 := lit_at (h := H ++ [Row.row 18 0 [r.to.av] ⟨true, 55⟩]) (b := bs) hq
      cases hW1 : has W r.to with
      | true =>
        have hf2 : findT W r.to = ((pos W r.to : Nat) : Int) := by simp [findT, hW1]
        rw [hf2] at kW
        have h1 : (0 : Int) ≤ ((pos W r.to : Nat) : Int) := by omega
        have hem : emitR S W r.to = ⟨2, q⟩ := by simp [emitR, hS1, hW1, hq]
        obtain ⟨x', H', s, c, b1, b2, b3, b4, b5⟩ := key 2 q
        rcases b2 with rfl | ⟨id, hid, rfl⟩
        · simp -implicitDefEqProofs only [simF, Nat.reduceAdd, Nat.reduceLT, Nat.reduceEqDiff, Nat.reduceLeDiff, Nat.reduceMul, Int.reduceBEq, Int.reduceBNe, Int.reduceLT, Int.reduceLE, Int.reduceAdd, Int.reduceSub, Int.reduceMul, Int.reduceNeg, Nat.reduceSub, Nat.reducePow, Nat.reduceDiv, Nat.reduceMod, Zf22, E_masks, masks, Tryz.f22, storeE, hi, hlA, a1, a2, a3, lrt, irt, trt, hidp, hzl, hH, kS, kW, h0, h1, c1, lq, iq, tq, hsl, hby, b1, w]
          exact ⟨_, _, _, rfl, rfl, by rw [hem]; exact b3, b4, b5⟩
        · have hd : ¬ id < n0 := by omega
          simp -implicitDefEqProofs only [simF, Nat.reduceAdd, Nat.reduceLT, Nat.reduceEqDiff, Nat.reduceLeDiff, Nat.reduceMul, Int.reduceBEq, Int.reduceBNe, Int.reduceLT, Int.reduceLE, Int.reduceAdd, Int.reduceSub, Int.reduceMul, Int.reduceNeg, Nat.reduceSub, Nat.reducePow, Nat.reduceDiv, Nat.reduceMod, Zf22, E_masks, masks, Tryz.f22, storeE, hi, hlA, a1, a2, a3, lrt, irt, trt, hidp, hzl, hH, kS, kW, h0, h1, c1, lq, iq, tq, hsl, hby, b1, hd, w]
          exact ⟨_, _, _, rfl, rfl, by rw [hem]; exact b3, b4, b5⟩
      | false =>
        have hf2 : findT W r.to = -1 := by simp [findT, hW1]
        rw [hf2] at kW
        have hem : emitR S W r.to = ⟨1, q⟩ := by simp [emitR, hS1, hW1, hq]
        obtain ⟨x', H', s, c, b1, b2, b3, b4, b5⟩ := key 1 q
        rcases b2 with rfl | ⟨id, hid, rfl⟩
        · simp -implicitDefEqProofs only [simF, Nat.reduceAdd, Nat.reduceLT, Nat.reduceEqDiff, Nat.reduceLeDiff, Nat.reduceMul, Int.reduceBEq, Int.reduceBNe, Int.reduceLT, Int.reduceLE, Int.reduceAdd, Int.reduceSub, Int.reduceMul, Int.reduceNeg, Nat.reduceSub, Nat.reducePow, Nat.reduceDiv, Nat.reduceMod, Zf22, E_masks, masks, Tryz.f22, storeE, hi, hlA, a1, a2, a3, lrt, irt, trt, hidp, hzl, hH, kS, kW, h0, c1, lq, iq, tq, hsl, hby, b1, w]
          exact ⟨_, _, _, rfl, rfl, by rw [hem]; exact b3, b4, b5⟩
        · have hd : ¬ id < n0 := by omega
          simp -implicitDefEqProofs only [simF, Nat.reduceAdd, Nat.reduceLT, Nat.reduceEqDiff, Nat.reduceLeDiff, Nat.reduceMul, Int.reduceBEq, Int.reduceBNe, Int.reduceLT, Int.reduceLE, Int.reduceAdd, Int.reduceSub, Int.reduceMul, Int.reduceNeg, Nat.reduceSub, Nat.reducePow, Nat.reduceDiv, Nat.reduceMod, Zf22, E_masks, masks, Tryz.f22, storeE, hi, hlA, a1, a2, a3, lrt, irt, trt, hidp, hzl, hH, kS, kW, h0, c1, lq, iq, tq, hsl, hby, b1, hd, w]
          exact ⟨_, _, _, rfl, rfl, by rw [hem]; exact b3, b4, b5⟩

end Go.Proofs.YtobdjegooonklaaGreat
