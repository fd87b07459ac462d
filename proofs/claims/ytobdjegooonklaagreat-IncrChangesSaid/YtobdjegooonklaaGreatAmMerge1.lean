/- Two rows laid behind one another, and a map's keys in order. Conditions: none. -/
import Derived.Test.YtobdjegooonklaaGreatAmKeyed
import Derived.Test.YtobdjegooonklaaGreatAmOut
set_option linter.unusedSimpArgs false
set_option linter.unusedVariables false
set_option maxRecDepth 100000
set_option maxHeartbeats 1000000
namespace Go.Proofs.YtobdjegooonklaaGreat
open Go Go.AM

theorem get_nil {t : Nat} : AM.get [] t = none := rfl
theorem SlV.src {h : Heap} {k : Nat} {x : AV} {ys : List AV} (s : SlV h k x ys) : srS h k x = some ys := by
  rcases s with ⟨rfl, rfl⟩ | ⟨b, rfl⟩ | ⟨id, gen, ex, rfl, hr⟩
  · rfl
  · rw [Zet, if_pos rfl]
  · rw [srS_sl]
    simp [elsOf, hr, bleE, beqE]

def zInc : Inc := ⟨0, zRoute⟩
theorem zero_inc : assoc E.zeros 60 = some zInc.av := by kernel_rfl
theorem cap_22 {h : Heap} : capE E.P h #[22] nilS = some (.v (.int .i64 0), h, none, .pure) := by kernel_rfl
theorem cut_22 {h : Heap} : sliceE E.P h 22 nilS none (some (.v (.int .i64 0))) none = some nilS := by kernel_rfl
theorem src_int {h : Heap} {n : Nat} (hn : n < 490) : srcEls E.P E.zeros h 3 60 21 (.v (.int .i64 (n : Nat))) = some (List.replicate n zInc.av) := by
  have hl : AM.leafs zInc.av = 21 := by kernel_rfl
  have h1 : (0 : Int) ≤ n := by omega
  have h2 : (n : Int) ≤ 16777216 := by omega
  simp [srcEls, v3, zero_inc, hl, h1, h2, beqE]
theorem cut_row {h : Heap} {id n : Nat} {els : List AV} {ex : Tag} (hr : h[id]? = some (.row 21 0 els ex)) (hn : n = els.length) : sliceE E.P h 22 (.sl id 0 0 n) none (some (.v (.int .i64 0))) none = some (.sl id 0 0 0) := by
  subst hn
  simp [sliceE, und_22, sz_60, hr, bound, beqE]

/-- Room for changes: an empty slice over a row of as many zeros. -/
def room (h : Heap) (n : Nat) : AV × Heap := if n = 0 then (nilS, h) else (.sl h.length 0 0 0, h ++ [.row 21 0 (List.replicate n zInc.av) ⟨false, 60⟩])

theorem c94 (n : Nat) (h : Heap) (k : Nat) (hk : k < 490) : call E (n + 500) 94 [nilS, .v (.int .i64 (k : Nat))] h = some ((room h k).1, (room h k).2, ⟨[], [], false⟩) := by
  have h0 : ¬ ((k : Int) < 0) := by omega
  have w : IntKind.i64.wrap ((k : Int) - 0) = (k : Nat) := by rw [Int.sub_zero, wrap_i64 (by omega) (by omega)]
  rw [call_at (E := E) (f := 94) (fn := Tryz.f94) rfl Tryz.func94 rfl (Nat.le_of_ble_eq_true rfl)]
  by_cases hz : k = 0
  · subst hz
    simp -implicitDefEqProofs only [simA, Nat.reduceAdd, Nat.reduceLT, Nat.reduceEqDiff, Nat.reduceLeDiff, Nat.reduceMul, Int.reduceBEq, Int.reduceBNe, Int.reduceLT, Int.reduceLE, Int.reduceAdd, Int.reduceSub, Int.reduceMul, Int.reduceNeg, Nat.reduceSub, Nat.reducePow, Nat.reduceDiv, Nat.reduceMod, ln_22, und_22, sz_60, ap_22_3, keep_94, E_masks, masks, rows_94, Tryz.f94, cap_22, room, Int.ofNat_zero, wrap_i64]
    try rfl
  · have hg : (0 : Int) < k := by omega
    have hs := src_int (h := h) hk
    have hby : k * 56 ≤ 140737488355328 := by omega
    have hby' : (0 + k) * 56 ≤ 140737488355328 := by omega
    have hrl : (List.replicate k zInc.av).length = k := by simp
    have hre : (List.replicate k zInc.av).isEmpty = false := by cases k with
      | zero => exact (hz rfl).elim
      | succ k => rfl
    have w0 : IntKind.i64.wrap 0 = 0 := rfl
    have hc := cut_row (h := h ++ [.row 21 0 (List.replicate k zInc.av) ⟨false, 60⟩]) (id := h.length) (n := k) (els := List.replicate k zInc.av) (ex := ⟨false, 60⟩) (by rw [end0]; rfl) (by simp)
    simp -implicitDefEqProofs only [simA, Nat.reduceAdd, Nat.reduceLT, Nat.reduceEqDiff, Nat.reduceLeDiff, Nat.reduceMul, Int.reduceBEq, Int.reduceBNe, Int.reduceLT, Int.reduceLE, Int.reduceAdd, Int.reduceSub, Int.reduceMul, Int.reduceNeg, Nat.reduceSub, Nat.reducePow, Nat.reduceDiv, Nat.reduceMod, ln_22, und_22, sz_60, ap_22_3, keep_94, E_masks, masks, rows_94, Tryz.f94, cap_22, w, w0, h0, hg, cut_22, hs, hrl, hre, hby', hc, room, hz]

theorem setFrom_part : ∀ (ys l1 l2 : List AV), ys.length ≤ l2.length → setFrom (l1 ++ l2) l1.length ys = l1 ++ (ys ++ l2.drop ys.length)
  | [], l1, l2, _ => by simp [setFrom]
  | y :: ys, l1, [], h => by simp at h
  | y :: ys, l1, z :: l2, h => by
    have ih := setFrom_part ys (l1 ++ [y]) l2 (by simpa using h)
    simp only [setFrom]
    rw [List.set_append_right _ _ (Nat.le_refl _), Nat.sub_self, List.set_cons_zero]
    have e : l1 ++ y :: l2 = (l1 ++ [y]) ++ l2 := by simp
    rw [e, show l1.length + 1 = (l1 ++ [y]).length by simp, ih]
    simp

/-- A slice that is filled, with room for k. -/
def RoomAt (h : Heap) (k : Nat) (L : List Inc) (z : AV) (H : Heap) : Prop := (k = 0 ∧ L = [] ∧ z = nilS ∧ H = h) ∨ (k ≠ 0 ∧ z = .sl h.length 0 0 L.length ∧ H = h ++ [.row 21 0 (L.map Inc.av ++ List.replicate (k - L.length) zInc.av) ⟨false, 60⟩])
theorem RoomAt.zero (h : Heap) (k : Nat) : RoomAt h k [] (room h k).1 (room h k).2 := by
  unfold RoomAt room
  by_cases hk : k = 0 <;> simp [hk]
theorem RoomAt.app {h : Heap} {k : Nat} {A B : List Inc} {z : AV} {H : Heap} (r : RoomAt h k A z H) (hl : (A ++ B).length ≤ k) (hb : k < 490) : ∃ z' H' s c, apO H 60 21 56 z (some (B.map Inc.av)) = some (z', H', s, c) ∧ (s = none ∨ s = some (h.length, false)) ∧ RoomAt h k (A ++ B) z' H' := by
  have hl2 : A.length + B.length ≤ k := by simpa using hl
  rcases r with ⟨rfl, rfl, rfl, rfl⟩ | ⟨hk, rfl, rfl⟩
  · have : B = [] := List.eq_nil_of_length_eq_zero (by simpa using hl2)
    subst this
    exact ⟨nilS, H, none, .quiet, rfl, .inl rfl, .inl ⟨rfl, rfl, rfl, rfl⟩⟩
  · refine ⟨.sl h.length 0 0 (A ++ B).length, _, some (h.length, false), .w, ?_, .inr rfl, .inr ⟨hk, rfl, rfl⟩⟩
    rw [Zer, if_pos (by simp [sliceLen]; omega)]
    have hif := idfree_incs B
    have h1 : A.length ≤ A.length + (k - A.length) := by omega
    have h3 : A.length + B.length ≤ A.length + (k - A.length) := by omega
    have h2 := setFrom_part (B.map Inc.av) (A.map Inc.av) (List.replicate (k - A.length) zInc.av) (by simp; omega)
    simp only [List.length_map] at h2
    have h4 : k - A.length - B.length = k - (A.length + B.length) := by omega
    simp [appendTo, hif, bleE, beqE, h1, h3, h2, h4]
theorem RoomAt.cat {h : Heap} {L : List Inc} {z : AV} {H : Heap} (r : RoomAt h L.length L z H) : (L = [] ∧ z = nilS ∧ H = h) ∨ (L ≠ [] ∧ z = .sl h.length 0 0 L.length ∧ H = h ++ [.row 21 0 (L.map Inc.av) ⟨false, 60⟩]) := by
  rcases r with ⟨h1, h2, h3, h4⟩ | ⟨h1, h2, h3⟩
  · exact .inl ⟨h2, h3, h4⟩
  · exact .inr ⟨fun h => h1 (by rw [h]; rfl), h2, by simpa using h3⟩
theorem RoomAt.old {h : Heap} {k : Nat} {A : List Inc} {z : AV} {H : Heap} (r : RoomAt h k A z H) : ∀ j, j < h.length → H[j]? = h[j]? := by
  rcases r with ⟨_, _, _, rfl⟩ | ⟨_, _, rfl⟩
  · exact fun _ _ => rfl
  · exact fun j hj => List.getElem?_append_left hj
theorem RoomAt.fit {h : Heap} {k : Nat} {A : List Inc} {z : AV} {H : Heap} (r : RoomAt h k A z H) : AM.leafs z = 1 ∧ isAggA z = false ∧ isTupA z = false := by
  rcases r with ⟨_, _, rfl, rfl⟩ | ⟨_, rfl, rfl⟩ <;> exact ⟨rfl, rfl, rfl⟩

theorem c54 (n : Nat) (h : Heap) (x y : AV) (A B : List Inc) (sx : SlV h 21 x (A.map Inc.av)) (sy : SlV h 21 y (B.map Inc.av)) (hl : (A ++ B).length < 490) :
    ∃ z H, call E (n + 504) 54 [.lit 1 true [x, y]] h = some (z, H, ⟨[], [], false⟩) ∧ RoomAt h (A ++ B).length (A ++ B) z H := by
  have hl2 : A.length + B.length < 490 := by simpa using hl
  have lx : sliceLen x = some A.length := by rw [sx.len]; simp
  have ly : sliceLen y = some B.length := by rw [sy.len]; simp
  have fx := sliceLen_one lx
  have fy := sliceLen_one ly
  have i0 : indexAddrE E.P h 153 (.lit 1 true [x, y]) (.v (.int .i64 0)) = some (.rop x) := by simp [indexAddrE, und_153, sz_22, idx]
  have i1 : indexAddrE E.P h 153 (.lit 1 true [x, y]) (.v (.int .i64 1)) = some (.rop y) := by simp [indexAddrE, und_153, sz_22, idx]
  have w0 : IntKind.i64.wrap (0 + ((A.length : Nat) : Int)) = (A.length : Nat) := by rw [Int.zero_add, wrap_i64 (by omega) (by omega)]
  have w1 : IntKind.i64.wrap (((A.length : Nat) : Int) + ((B.length : Nat) : Int)) = ((A ++ B).length : Nat) := by rw [wrap_i64 (by omega) (by omega)]; simp
  have w2 : IntKind.i64.wrap 1 = 1 := rfl
  have w3 : IntKind.i64.wrap 2 = 2 := rfl
  have n0 : ¬ (((A.length : Nat) : Int) < 0) := by omega
  have n1 : ¬ ((((A ++ B).length : Nat) : Int) < 0) := by omega
  have e1 : ∃ fr, exec E (call E (n + 503)) (n + 503) 54 36 h.length (loopB Tryz.f54 0) ⟨[(0, .lit 1 true [x, y]), (3, .v (.int .i64 0)), (9, .lit 1 true [x, y]), (10, .v (.int .i64 2)), (11, .v (.int .i64 0))], h, [], []⟩ = some (.normal, ⟨fr, h, [], []⟩) ∧
      keepF (masks 54) fr = [(0, .lit 1 true [x, y]), (3, .v (.int .i64 (A.length : Nat))), (9, .lit 1 true [x, y]), (10, .v (.int .i64 2)), (11, .v (.int .i64 1))] := by
    rw [exec_code]
    simp -implicitDefEqProofs only [simA, Nat.reduceAdd, Nat.reduceLT, Nat.reduceEqDiff, Nat.reduceLeDiff, Nat.reduceMul, Int.reduceBEq, Int.reduceBNe, Int.reduceLT, Int.reduceLE, Int.reduceAdd, Int.reduceSub, Int.reduceMul, Int.reduceNeg, Nat.reduceSub, Nat.reducePow, Nat.reduceDiv, Nat.reduceMod, ln_153, und_153, sz_22, agg_22, ln_22, ap_22_22, src_22, keep_54, E_masks, masks, rows_54, Tryz.f54, i0, lx, fx, w0, w2, n0]
    exact ⟨_, rfl, rfl⟩
  have e2 : ∃ fr, exec E (call E (n + 503)) (n + 503) 54 36 h.length (loopB Tryz.f54 0) ⟨[(0, .lit 1 true [x, y]), (3, .v (.int .i64 (A.length : Nat))), (9, .lit 1 true [x, y]), (10, .v (.int .i64 2)), (11, .v (.int .i64 1))], h, [], []⟩ = some (.normal, ⟨fr, h, [], []⟩) ∧
      keepF (masks 54) fr = [(0, .lit 1 true [x, y]), (3, .v (.int .i64 ((A ++ B).length : Nat))), (9, .lit 1 true [x, y]), (10, .v (.int .i64 2)), (11, .v (.int .i64 2))] := by
    rw [exec_code]
    simp -implicitDefEqProofs only [simA, Nat.reduceAdd, Nat.reduceLT, Nat.reduceEqDiff, Nat.reduceLeDiff, Nat.reduceMul, Int.reduceBEq, Int.reduceBNe, Int.reduceLT, Int.reduceLE, Int.reduceAdd, Int.reduceSub, Int.reduceMul, Int.reduceNeg, Nat.reduceSub, Nat.reducePow, Nat.reduceDiv, Nat.reduceMod, ln_153, und_153, sz_22, agg_22, ln_22, ap_22_22, src_22, keep_54, E_masks, masks, rows_54, Tryz.f54, i1, ly, fy, w1, w3, n1]
    exact ⟨_, rfl, rfl⟩
  have e3 : ∃ fr, exec E (call E (n + 503)) (n + 503) 54 36 h.length (loopB Tryz.f54 0) ⟨[(0, .lit 1 true [x, y]), (3, .v (.int .i64 ((A ++ B).length : Nat))), (9, .lit 1 true [x, y]), (10, .v (.int .i64 2)), (11, .v (.int .i64 2))], h, [], []⟩ = some (.exit 0, ⟨fr, h, [], []⟩) ∧
      AM.get fr 0 = some (.lit 1 true [x, y]) ∧ AM.get fr 3 = some (.v (.int .i64 ((A ++ B).length : Nat))) ∧ AM.get fr 9 = some (.lit 1 true [x, y]) ∧ AM.get fr 10 = some (.v (.int .i64 2)) ∧ AM.get fr 11 = some (.v (.int .i64 2)) := by
    rw [exec_code]
    simp -implicitDefEqProofs only [simA, Nat.reduceAdd, Nat.reduceLT, Nat.reduceEqDiff, Nat.reduceLeDiff, Nat.reduceMul, Int.reduceBEq, Int.reduceBNe, Int.reduceLT, Int.reduceLE, Int.reduceAdd, Int.reduceSub, Int.reduceMul, Int.reduceNeg, Nat.reduceSub, Nat.reducePow, Nat.reduceDiv, Nat.reduceMod, ln_153, und_153, sz_22, agg_22, ln_22, ap_22_22, src_22, keep_54, E_masks, masks, rows_54, Tryz.f54]
    exact ⟨_, rfl, rfl, rfl, rfl, rfl, rfl⟩
  obtain ⟨fr1, e1, k1⟩ := e1
  obtain ⟨fr2, e2, k2⟩ := e2
  obtain ⟨fr3, e3, g0, g3, g9, g10, g11⟩ := e3
  have s0 : keepF (masks 54) [(0, .lit 1 true [x, y]), (3, .v (.int .i64 0)), (9, .lit 1 true [x, y]), (10, .v (.int .i64 2)), (11, .v (.int .i64 0))] = [(0, .lit 1 true [x, y]), (3, .v (.int .i64 0)), (9, .lit 1 true [x, y]), (10, .v (.int .i64 2)), (11, .v (.int .i64 0))] := rfl
  have L1 := loopN_stepK (n := n + 502) s0 e1
  rw [loopN_stepK (n := n + 501) k1 e2, loopN_outK k2 e3] at L1
  have r94 := c94 (n + 3) h (A ++ B).length hl
  obtain ⟨z1, H1, s1, c1, a1, hs1, r1⟩ := (RoomAt.zero h (A ++ B).length).app (B := A) (by simp) hl
  simp only [List.nil_append] at r1
  obtain ⟨z2, H2, s2, c2, a2, hs2, r2⟩ := r1.app (B := B) (Nat.le_refl _) hl
  generalize hz0 : (room h (A ++ B).length).1 = z0 at *
  generalize hH0 : (room h (A ++ B).length).2 = H0 at *
  have o0 := (RoomAt.zero h (A ++ B).length).old
  rw [hH0] at o0
  have sx0 := (sx.stay o0).src
  have sy1 := (sy.stay r1.old).src
  simp -implicitDefEqProofs only [simA, Nat.reduceAdd, Nat.reduceLT, Nat.reduceEqDiff, Nat.reduceLeDiff, Nat.reduceMul, Int.reduceBEq, Int.reduceBNe, Int.reduceLT, Int.reduceLE, Int.reduceAdd, Int.reduceSub, Int.reduceMul, Int.reduceNeg, Nat.reduceSub, Nat.reducePow, Nat.reduceDiv, Nat.reduceMod] at a1 a2
  have i0' : indexAddrE E.P H0 153 (.lit 1 true [x, y]) (.v (.int .i64 0)) = some (.rop x) := i0
  have i1' : indexAddrE E.P H1 153 (.lit 1 true [x, y]) (.v (.int .i64 1)) = some (.rop y) := i1
  have f1 : ∃ fr, exec E (call E (n + 503)) (n + 503) 54 36 h.length (loopB Tryz.f54 1) ⟨[(0, .lit 1 true [x, y]), (3, .v (.int .i64 ((A ++ B).length : Nat))), (6, z0), (9, .lit 1 true [x, y]), (10, .v (.int .i64 2)), (11, .v (.int .i64 2)), (25, .lit 1 true [x, y]), (26, .v (.int .i64 2)), (27, .v (.int .i64 0))], H0, [], []⟩ = some (.normal, ⟨fr, H1, [], []⟩) ∧
      keepF (masks 54) fr = [(0, .lit 1 true [x, y]), (3, .v (.int .i64 ((A ++ B).length : Nat))), (6, z1), (9, .lit 1 true [x, y]), (10, .v (.int .i64 2)), (11, .v (.int .i64 2)), (25, .lit 1 true [x, y]), (26, .v (.int .i64 2)), (27, .v (.int .i64 1))] := by
    rw [exec_code]
    rcases hs1 with rfl | rfl
    all_goals
      simp -implicitDefEqProofs only [simA, Nat.reduceAdd, Nat.reduceLT, Nat.reduceEqDiff, Nat.reduceLeDiff, Nat.reduceMul, Int.reduceBEq, Int.reduceBNe, Int.reduceLT, Int.reduceLE, Int.reduceAdd, Int.reduceSub, Int.reduceMul, Int.reduceNeg, Nat.reduceSub, Nat.reducePow, Nat.reduceDiv, Nat.reduceMod, ln_153, und_153, sz_22, agg_22, ln_22, ap_22_22, src_22, keep_54, E_masks, masks, rows_54, Tryz.f54, i0', fx, sx0, a1, w2]
      exact ⟨_, rfl, rfl⟩
  have f2 : ∃ fr, exec E (call E (n + 503)) (n + 503) 54 36 h.length (loopB Tryz.f54 1) ⟨[(0, .lit 1 true [x, y]), (3, .v (.int .i64 ((A ++ B).length : Nat))), (6, z1), (9, .lit 1 true [x, y]), (10, .v (.int .i64 2)), (11, .v (.int .i64 2)), (25, .lit 1 true [x, y]), (26, .v (.int .i64 2)), (27, .v (.int .i64 1))], H1, [], []⟩ = some (.normal, ⟨fr, H2, [], []⟩) ∧
      keepF (masks 54) fr = [(0, .lit 1 true [x, y]), (3, .v (.int .i64 ((A ++ B).length : Nat))), (6, z2), (9, .lit 1 true [x, y]), (10, .v (.int .i64 2)), (11, .v (.int .i64 2)), (25, .lit 1 true [x, y]), (26, .v (.int .i64 2)), (27, .v (.int .i64 2))] := by
    rw [exec_code]
    rcases hs2 with rfl | rfl
    all_goals
      simp -implicitDefEqProofs only [simA, Nat.reduceAdd, Nat.reduceLT, Nat.reduceEqDiff, Nat.reduceLeDiff, Nat.reduceMul, Int.reduceBEq, Int.reduceBNe, Int.reduceLT, Int.reduceLE, Int.reduceAdd, Int.reduceSub, Int.reduceMul, Int.reduceNeg, Nat.reduceSub, Nat.reducePow, Nat.reduceDiv, Nat.reduceMod, ln_153, und_153, sz_22, agg_22, ln_22, ap_22_22, src_22, keep_54, E_masks, masks, rows_54, Tryz.f54, i1', fy, sy1, a2, w3]
      exact ⟨_, rfl, rfl⟩
  have f3 : ∃ fr, exec E (call E (n + 503)) (n + 503) 54 36 h.length (loopB Tryz.f54 1) ⟨[(0, .lit 1 true [x, y]), (3, .v (.int .i64 ((A ++ B).length : Nat))), (6, z2), (9, .lit 1 true [x, y]), (10, .v (.int .i64 2)), (11, .v (.int .i64 2)), (25, .lit 1 true [x, y]), (26, .v (.int .i64 2)), (27, .v (.int .i64 2))], H2, [], []⟩ = some (.exit 2, ⟨fr, H2, [], []⟩) ∧ AM.get fr 6 = some z2 := by
    rw [exec_code]
    simp -implicitDefEqProofs only [simA, Nat.reduceAdd, Nat.reduceLT, Nat.reduceEqDiff, Nat.reduceLeDiff, Nat.reduceMul, Int.reduceBEq, Int.reduceBNe, Int.reduceLT, Int.reduceLE, Int.reduceAdd, Int.reduceSub, Int.reduceMul, Int.reduceNeg, Nat.reduceSub, Nat.reducePow, Nat.reduceDiv, Nat.reduceMod, ln_153, und_153, sz_22, agg_22, ln_22, ap_22_22, src_22, keep_54, E_masks, masks, rows_54, Tryz.f54]
    exact ⟨_, rfl, rfl⟩
  obtain ⟨fq1, f1, q1⟩ := f1
  obtain ⟨fq2, f2, q2⟩ := f2
  obtain ⟨fq3, f3, q6⟩ := f3
  have t0 : keepF (masks 54) [(0, .lit 1 true [x, y]), (3, .v (.int .i64 ((A ++ B).length : Nat))), (6, z0), (9, .lit 1 true [x, y]), (10, .v (.int .i64 2)), (11, .v (.int .i64 2)), (25, .lit 1 true [x, y]), (26, .v (.int .i64 2)), (27, .v (.int .i64 0))] = [(0, .lit 1 true [x, y]), (3, .v (.int .i64 ((A ++ B).length : Nat))), (6, z0), (9, .lit 1 true [x, y]), (10, .v (.int .i64 2)), (11, .v (.int .i64 2)), (25, .lit 1 true [x, y]), (26, .v (.int .i64 2)), (27, .v (.int .i64 0))] := rfl
  have L2 := loopN_stepK (n := n + 502) t0 f1
  rw [loopN_stepK (n := n + 501) q1 f2, loopN_outK q2 f3] at L2
  refine ⟨z2, H2, ?_, r2⟩
  simp -implicitDefEqProofs only [simA, Nat.reduceAdd, Nat.reduceLT, Nat.reduceEqDiff, Nat.reduceLeDiff, Nat.reduceMul, Int.reduceBEq, Int.reduceBNe, Int.reduceLT, Int.reduceLE, Int.reduceAdd, Int.reduceSub, Int.reduceMul, Int.reduceNeg, Nat.reduceSub, Nat.reducePow, Nat.reduceDiv, Nat.reduceMod, ln_153, und_153, sz_22, agg_22, ln_22, ap_22_22, src_22, keep_54, E_masks, masks, rows_54, Tryz.f54] at L1 L2 r94
  rw [call_at (E := E) (f := 54) (fn := Tryz.f54) rfl Tryz.func54 rfl (Nat.le_of_ble_eq_true rfl)]
  simp -implicitDefEqProofs only [simA, Nat.reduceAdd, Nat.reduceLT, Nat.reduceEqDiff, Nat.reduceLeDiff, Nat.reduceMul, Int.reduceBEq, Int.reduceBNe, Int.reduceLT, Int.reduceLE, Int.reduceAdd, Int.reduceSub, Int.reduceMul, Int.reduceNeg, Nat.reduceSub, Nat.reducePow, Nat.reduceDiv, Nat.reduceMod, ln_153, und_153, sz_22, agg_22, ln_22, ap_22_22, src_22, keep_54, E_masks, masks, rows_54, Tryz.f54, L1, L2, r94, g0, g3, g9, g10, g11, q6, get_nil]


theorem k56 (n : Nat) (h : Heap) (id : Nat) : call E (n + 501) 56 [.map id] h = some (.fn (.func 97) [] [.ptr h.length 0 0 [] 0], h ++ [.row 1 0 [.map id] ⟨true, 105⟩], ⟨[], [], false⟩) := by
  have hm : isTupA (.map id) = false := rfl
  have e0 : ∀ fr : FR, ev fr (.const .nilFunc) = some (.v .nilFunc) := fun _ => rfl
  rw [call_at (E := E) (f := 56) (fn := Tryz.f56) rfl Tryz.func56 rfl (Nat.le_of_ble_eq_true rfl)]
  simp -implicitDefEqProofs only [simA, Nat.reduceAdd, Nat.reduceLT, Nat.reduceEqDiff, Nat.reduceLeDiff, Nat.reduceMul, Int.reduceBEq, Int.reduceBNe, Int.reduceLT, Int.reduceLE, Int.reduceAdd, Int.reduceSub, Int.reduceMul, Int.reduceNeg, Nat.reduceSub, Nat.reducePow, Nat.reduceDiv, Nat.reduceMod, keep_56, E_masks, masks, rows_56, Tryz.f56, hm, e0]

/-! ### A map's keys in order -/
theorem insP_strict {x : PP} : ∀ {l : List PP}, l.Pairwise (fun a b => cfP a b < 0) → x ∉ l → (insP x l).Pairwise (fun a b => cfP a b < 0)
  | [], _, _ => by simp [insP]
  | y :: l, h, hx => by
    obtain ⟨h1, h2⟩ := List.pairwise_cons.1 h
    have hxy : x ≠ y := fun e => hx (by simp [e])
    have hxl : x ∉ l := fun e => hx (by simp [e])
    have hne : cmpP x.1 y.1 ≠ 0 := fun e => hxy (Subtype.ext (cmpP_zero x.2 y.2 e))
    unfold insP
    cases hd : decide (cfP x y ≤ 0) with
    | true =>
      have hle : cmpP x.1 y.1 ≤ 0 := of_decide_eq_true hd
      have hlt : cmpP x.1 y.1 < 0 := by omega
      refine List.pairwise_cons.2 ⟨fun z hz => ?_, h⟩
      rcases List.mem_cons.1 hz with rfl | hz
      · exact hlt
      · exact cmpP_trans x.2 y.2 z.2 hlt (h1 z hz)
    | false =>
      have hle : ¬ cmpP x.1 y.1 ≤ 0 := of_decide_eq_false hd
      have hneg := cmpP_neg x.2 y.2
      refine List.pairwise_cons.2 ⟨fun z hz => ?_, insP_strict h2 hxl⟩
      rcases List.mem_cons.1 ((insP_perm x l).subset hz) with rfl | hz
      · show cmpP y.1 z.1 < 0
        omega
      · exact h1 z hz
theorem isortP_strict : ∀ {l : List PP}, l.Nodup → (isortP l).Pairwise (fun a b => cfP a b < 0)
  | [], _ => .nil
  | x :: l, h => by
    obtain ⟨h1, h2⟩ := List.nodup_cons.1 h
    exact insP_strict (isortP_strict h2) fun hm => h1 ((isortP_perm l).subset hm)
theorem strictP_of : ∀ {l : List PP}, l.Pairwise (fun a b => cfP a b < 0) → strictP l = true
  | [], _ => rfl
  | [_], _ => rfl
  | x :: y :: l, h => by
    obtain ⟨h1, h2⟩ := List.pairwise_cons.1 h
    simp only [strictP, Bool.and_eq_true, decide_eq_true_eq]
    exact ⟨h1 y (List.mem_cons_self ..), strictP_of h2⟩

def toPP (l : List Pre) : List PP := l.filterMap fun p => if h : p.ad.length = 16 then some ⟨p, h⟩ else none
theorem toPP_val : ∀ {l : List Pre}, (∀ p ∈ l, p.ok) → (toPP l).map (·.1) = l
  | [], _ => rfl
  | p :: l, h => by
    have h1 := (h p (List.mem_cons_self ..)).1
    have ih := toPP_val fun q hq => h q (List.mem_cons_of_mem _ hq)
    simp only [toPP] at ih
    simp [toPP, h1, ih]
theorem toPP_nodup {l : List Pre} (h : ∀ p ∈ l, p.ok) (hn : l.Nodup) : (toPP l).Nodup := by
  have h2 : ((toPP l).map (·.1)).Nodup := by rw [toPP_val h]; exact hn
  exact (List.pairwise_map.1 h2).imp fun h e => h (congrArg _ e)

def skeys (L : Eff3) : List Pre := (isortP (toPP (L.map (·.1)))).map (·.1)
theorem skeys_perm {L : Eff3} (hL : ∀ q ∈ L, q.1.ok) : (skeys L).Perm (L.map (·.1)) := by
  have h := toPP_val (l := L.map (·.1)) fun p hp => by obtain ⟨q, hq, rfl⟩ := List.mem_map.1 hp; exact hL q hq
  have := (isortP_perm (toPP (L.map (·.1)))).map (·.1)
  rw [h] at this
  exact this
theorem skeys_sorted {L : Eff3} (hL : ∀ q ∈ L, q.1.ok) (hn : (L.map (·.1)).Nodup) : (skeys L).Pairwise (fun a b => cmpP a b < 0) := by
  unfold skeys
  rw [List.pairwise_map]
  exact isortP_strict (toPP_nodup (fun p hp => by obtain ⟨q, hq, rfl⟩ := List.mem_map.1 hp; exact hL q hq) hn)
theorem skeys_len {L : Eff3} (hL : ∀ q ∈ L, q.1.ok) : (skeys L).length = L.length := by simpa using (skeys_perm hL).length_eq

theorem ents_borns : ∀ (L : Eff3) (b : Nat), upB ((entsF b L).map (·.2.2)) = true ∧ ∀ e ∈ entsF b L, e.2.2 < b + L.length
  | [], _ => ⟨rfl, by simp [entsF]⟩
  | [(p, e)], b => by simp [entsF, upB]
  | (p, e) :: (q, d) :: L, b => by
    have ih := ents_borns ((q, d) :: L) (b + 1)
    refine ⟨?_, fun x hx => ?_⟩
    · have h1 := ih.1
      simp only [entsF, List.map_cons, upB, Bool.and_eq_true] at h1 ⊢
      exact ⟨Nat.ble_eq_true_of_le (Nat.le_refl _), h1⟩
    · rw [entsF] at hx
      rcases List.mem_cons.1 hx with rfl | hx
      · simp
      · have := ih.2 x hx
        simp only [List.length_cons] at this ⊢
        omega
theorem ents_keys : ∀ (L : Eff3) (b : Nat), (entsF b L).map (·.1) = (L.map (·.1)).map Pre.av
  | [], _ => rfl
  | (p, e) :: L, b => by simp [entsF, ents_keys L (b + 1)]
theorem presDec_ok {l : List Pre} (h : ∀ p ∈ l, p.ok) : presDec (l.map Pre.av) = some (toPP l) := by
  have := presDec_map (toPP l)
  have e : (toPP l).map avP = l.map Pre.av := by
    have h2 := congrArg (List.map Pre.av) (toPP_val h)
    rw [List.map_map] at h2
    exact h2
  rw [e] at this
  exact this

theorem k55 (n : Nat) (h : Heap) (rid id : Nat) (L : Eff3) (hr : h[rid]? = some (.row 1 0 [.map id] ⟨true, 105⟩)) (hm : EMap h id L) (hL : ∀ q ∈ L, q.1.ok) (hn : (L.map (·.1)).Nodup) (hl : L.length < 490) :
    call E (n + 1) 55 [.fn (.func 97) [] [.ptr rid 0 0 [] 0], .fn (.func 49) [] []] h = if L = [] then some (nilS, h, ⟨[], [], true⟩) else some (.sl h.length 0 0 L.length, h ++ [.row 18 0 ((skeys L).map Pre.av) ⟨false, 55⟩], ⟨[], [], false⟩) := by
  have ho : E.ov 55 = some (ovKeys 97 49) := rfl
  have hlk : lookAt h (.ptr rid 0 0 [] 0) = some (.map id) := by simp [lookAt, hr, nav, beqE]
  obtain ⟨b1, b2⟩ := ents_borns L 0
  have b3 : (entsF 0 L).all (fun e => Nat.blt e.2.2 L.length) = true := List.all_eq_true.2 fun e he => by
    have := b2 e he
    rw [bltE]
    exact decide_eq_true (by omega)
  have b4 : Nat.blt (entsF 0 L).length mostSeq = true := by rw [ents_len, bltE]; exact decide_eq_true (by unfold mostSeq; omega)
  have hok : ∀ p ∈ L.map (·.1), p.ok := fun p hp => by obtain ⟨q, hq, rfl⟩ := List.mem_map.1 hp; exact hL q hq
  have hd := presDec_ok hok
  have hst := strictP_of (isortP_strict (toPP_nodup hok hn))
  have hlen : (toPP (L.map (·.1))).length = L.length := by
    have := congrArg List.length (toPP_val hok)
    simpa using this
  unfold EMap at hm
  simp only [call, ho, ovKeys, hlk, hm, b1, b3, b4, ents_keys, hd, Nat.beq_refl, Bool.and_true, cond_true]
  cases L with
  | nil => rfl
  | cons q L =>
    cases hk : toPP ((q :: L).map (·.1)) with
    | nil => rw [hk] at hlen; simp at hlen
    | cons k ks =>
      rw [hk] at hst hlen
      have e : (isortP (k :: ks)).map avP = (skeys (q :: L)).map Pre.av := by
        unfold skeys
        rw [hk, List.map_map]
        rfl
      simp only [hst, cond_true, hlen, e, reduceCtorEq, if_false]
      rfl

end Go.Proofs.YtobdjegooonklaaGreat
