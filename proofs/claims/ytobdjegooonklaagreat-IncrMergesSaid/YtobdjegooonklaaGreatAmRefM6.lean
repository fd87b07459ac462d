/- The reference's Merge whole. Conditions: none. -/
import Derived.Test.YtobdjegooonklaaGreatAmRefM5
set_option linter.unusedSimpArgs false
set_option linter.unusedVariables false
set_option maxRecDepth 100000
set_option maxHeartbeats 1000000
namespace Go.Proofs.YtobdjegooonklaaGreat
open Go Go.AM

theorem loop22d (n n0 m0 : Nat) (H0 : Heap) (t6 tw ts t14 : AV) (W S A : List Route) (len len2 : Int) (hn0 : n0 ≤ m0) (hH0 : H0.length = m0) (sW : SL W) (sS : SL S) (sA : SL A) (vw : LV tw W) (vs : LV ts S) (vA : RV H0 t14 A) (hW : W.length < 490) (hS : S.length < 490) (hA : A.length < 490) : ∀ (rest pre : List Route) (j : Nat) (fr : FR) (H : Heap) (out : List Inc) (t13 : AV), pre ++ rest = A → rest.length < j → m0 ≤ H.length → (∀ j, j < m0 → H[j]? = H0[j]?) → out.length = pre.length → OutI m0 H (out.map Inc.av) t13 →
    keepF (masks 22) fr = [(6, t6), (7, tw), (8, ts), (9, .v (.int .i64 len)), (10, .v (.int .i64 len)), (13, t13), (14, t14), (15, .v (.int .i64 len2)), (16, .v (.int .i64 (pre.length : Nat)))] →
    ∃ fr' H' t', loopN (exec E (call E (n + 503)) (n + 503) 22 166 n0 (loopB Tryz.f22 3)) (masks 22) j ⟨fr, H, [], []⟩ = some (.exit 6, ⟨fr', H', [], []⟩) ∧ AM.get fr' 13 = some t' ∧ OutI m0 H' ((out ++ rest.map fun r => emitR S W r.to).map Inc.av) t'
  | [], pre, j, fr, H, out, t13, hl, hj, hH, hold, hol, o, hk => by
    obtain ⟨j, rfl⟩ : ∃ i, j = i + 1 := ⟨j - 1, by omega⟩
    have hi : ¬ ((pre.length : Int) < (A.length : Int)) := by rw [← hl]; simp
    have vA' : RV H t14 A := vA.stay fun id hid => hold id (by omega)
    have hlA := vA'.len
    have he : ∃ fr', exec E (call E (n + 503)) (n + 503) 22 166 n0 (loopB Tryz.f22 3) ⟨[(6, t6), (7, tw), (8, ts), (9, .v (.int .i64 len)), (10, .v (.int .i64 len)), (13, t13), (14, t14), (15, .v (.int .i64 len2)), (16, .v (.int .i64 (pre.length : Nat)))], H, [], []⟩ = some (.exit 6, ⟨fr', H, [], []⟩) ∧ AM.get fr' 13 = some t13 := by
      rw [exec_code]
      simp -implicitDefEqProofs only [simA, Nat.reduceAdd, Nat.reduceLT, Nat.reduceEqDiff, Nat.reduceLeDiff, Nat.reduceMul, Int.reduceBEq, Int.reduceBNe, Int.reduceLT, Int.reduceLE, Int.reduceAdd, Int.reduceSub, Int.reduceMul, Int.reduceNeg, Nat.reduceSub, Nat.reducePow, Nat.reduceDiv, Nat.reduceMod, Zf22, E_masks, masks, Tryz.f22, hi, hlA]
      exact ⟨_, rfl, rfl⟩
    obtain ⟨fr', e1, g⟩ := he
    exact ⟨fr', H, t13, loopN_outK hk e1, g, by simpa using o⟩
  | r :: rest, pre, j, fr, H, out, t13, hl, hj, hH, hold, hol, o, hk => by
    obtain ⟨j, rfl⟩ : ∃ i, j = i + 1 := ⟨j - 1, by simp at hj; omega⟩
    have hpl : pre.length < A.length := by rw [← hl]; simp
    have vA' : RV H t14 A := vA.stay fun id hid => hold id (by omega)
    obtain ⟨fr1, H1, t1, e1, k1, o1, a1, a2⟩ := round22d n n0 m0 H t6 tw ts t13 t14 W S A out len len2 pre rest r hl hn0 hH sW sS sA vw vs vA' hW hS hA (by omega) o
    rw [loopN_stepK hk e1]
    obtain ⟨fr2, H2, t2, e2, g2, o2⟩ := loop22d n n0 m0 H0 t6 tw ts t14 W S A len len2 hn0 hH0 sW sS sA vw vs vA hW hS hA rest (pre ++ [r]) j fr1 H1 (out ++ [emitR S W r.to]) t1 (by rw [← hl]; simp) (by simp at hj; omega) a1 (fun j hj => by rw [a2 j hj, hold j hj]) (by simp; omega) o1 (by rw [k1]; simp)
    exact ⟨fr2, H2, t2, e2, g2, by simpa [List.append_assoc] using o2⟩

/-- The reference's merged row; none: they can't be. -/
def refM (l : List Inc) : Option (List Inc) := if wrongs l = true then none else (rfold l l 0 [] []).map fun q => (allF q.2 q.1).map fun r => emitR q.2 q.1 r.to

theorem c22 (n : Nat) (h : Heap) (x y : AV) (A B : List Inc) (hx : Arg 21 x (A.map Inc.av)) (hy : Arg 21 y (B.map Inc.av)) (hA : ∀ i ∈ A, i.ok) (hB : ∀ i ∈ B, i.ok) (hl : (A ++ B).length < 240) :
    call E (n + 504) 22 [x, y] h = some (.tup [mrgV (refM (A ++ B)), .v (.bool (refM (A ++ B)).isSome)], h, ⟨[], [], true⟩) := by
  have hl2 : A.length + B.length < 240 := by simpa using hl
  have sx := hx.src
  have sy := hy.src
  obtain ⟨y4, H4, c4, a4, o4, n4⟩ := copy_inc (B := h) (L := A) (by omega)
  have l4 : sliceLen y4 = some A.length := by rw [o4.len]; simp
  obtain ⟨t6, H5, s5, c5, a5, hs5, o5, n5⟩ := o4.appK n4 (B.map Inc.av) (idfree_incs B)
  have a5' : apO H4 60 21 56 y4 (some (B.map Inc.av)) = some (t6, H5, s5, c5) := by
    rw [Zer, if_pos (by rw [l4]; simp; omega)]
    exact a5
  rw [← List.map_append] at o5
  have hAB : ∀ i ∈ A ++ B, i.ok := fun i hi => by
    rcases List.mem_append.1 hi with hi | hi
    · exact hA i hi
    · exact hB i hi
  obtain ⟨l, hlab⟩ : ∃ l, A ++ B = l := ⟨_, rfl⟩
  rw [hlab] at o5 hl hAB ⊢
  obtain ⟨g, I6⟩ : ∃ g, In22 h.length g l t6 H5 := by
    have hlen : sliceLen t6 = some l.length := by rw [o5.len]; simp
    rcases o5 with ⟨h0, _⟩ | ⟨h0, g, rfl, rfl⟩
    · have : l = [] := List.map_eq_nil_iff.1 h0
      exact ⟨0, hlen, fun hne => (hne this).elim⟩
    · exact ⟨g, hlen, fun _ => ⟨by simp, by rw [end0]; rfl⟩⟩
  have hn0 : h.length ≤ H5.length := o5.grow
  simp -implicitDefEqProofs only [simA, Nat.reduceAdd, Nat.reduceLT, Nat.reduceEqDiff, Nat.reduceLeDiff, Nat.reduceMul, Int.reduceBEq, Int.reduceBNe, Int.reduceLT, Int.reduceLE, Int.reduceAdd, Int.reduceSub, Int.reduceMul, Int.reduceNeg, Nat.reduceSub, Nat.reducePow, Nat.reduceDiv, Nat.reduceMod] at a4 a5'
  obtain ⟨fra, ⟨qa, ea, ga6, ga7, ga8, ga9, ga13, ga14, ga15, ga16⟩ | ⟨qa, ea, ga4, ga5⟩⟩ := loop22a n h.length H5 h.length g l t6 I6 hAB (by omega) l [] (n + 503) [(6, t6), (7, nilS), (8, nilS), (9, .v (.int .i64 0))] rfl (by omega) rfl
  · simp -implicitDefEqProofs only [simA, Nat.reduceAdd, Nat.reduceLT, Nat.reduceEqDiff, Nat.reduceLeDiff, Nat.reduceMul, Int.reduceBEq, Int.reduceBNe, Int.reduceLT, Int.reduceLE, Int.reduceAdd, Int.reduceSub, Int.reduceMul, Int.reduceNeg, Nat.reduceSub, Nat.reducePow, Nat.reduceDiv, Nat.reduceMod, Zf22, E_masks, masks, Tryz.f22] at ea
    rcases loop22b n h.length h.length g l t6 hAB (by omega) l [] (n + 503) [(6, t6), (7, nilS), (8, nilS), (9, .v (.int .i64 (l.length : Nat))), (10, .v (.int .i64 0))] H5 nilS nilS [] [] rfl (by omega) hn0 I6 ⟨⟨by simp, .nil⟩, ⟨by simp, .nil⟩, by simp, by simp, by simp⟩ (.inl ⟨rfl, rfl⟩) (.inl ⟨rfl, rfl⟩) rfl with ⟨frb, H6, W, S, tw, ts, qb, eb, gb6, gb7, gb8, gb9, gb10, gb13, gb14, gb15, gb16, hn6, I, vw, vs⟩ | ⟨frb, H6, qb, eb, gb4, gb5⟩
    · have hrm : refM l = some ((allF S W).map fun r => emitR S W r.to) := by simp only [refM, qa, Bool.false_eq_true, if_false]; rw [show ([] : List Inc).length = 0 from rfl] at qb; rw [qb]; rfl
      rw [hrm]
      have hwl := I.wl
      have hsl := I.sl
      obtain ⟨t14, H7, c7, a7, o7, n7⟩ := copy_rt (B := H6) (L := S) (by omega)
      have src8 := (vs.rv H6).src
      simp -implicitDefEqProofs only [simA, Nat.reduceAdd, Nat.reduceLT, Nat.reduceEqDiff, Nat.reduceLeDiff, Nat.reduceMul, Int.reduceBEq, Int.reduceBNe, Int.reduceLT, Int.reduceLE, Int.reduceAdd, Int.reduceSub, Int.reduceMul, Int.reduceNeg, Nat.reduceSub, Nat.reducePow, Nat.reduceDiv, Nat.reduceMod, Zf22, E_masks, masks, Tryz.f22] at eb a7
      have hg7 : H6.length ≤ H7.length := o7.grow
      obtain ⟨frc, t14', ec, gc6, gc7, gc8, gc9, gc10, gc13, gc14, gc15, gc16, sA, vA, hlA⟩ := loop22c n h.length H7 t6 tw ts W (l.length : Nat) I.w vw (by omega) W [] (n + 503) [(6, t6), (7, tw), (8, ts), (9, .v (.int .i64 (l.length : Nat))), (10, .v (.int .i64 (l.length : Nat))), (13, nilS), (14, t14), (15, .v (.int .i64 0))] S t14 rfl (by omega) I.s o7.rv (by omega) rfl
      simp -implicitDefEqProofs only [simA, Nat.reduceAdd, Nat.reduceLT, Nat.reduceEqDiff, Nat.reduceLeDiff, Nat.reduceMul, Int.reduceBEq, Int.reduceBNe, Int.reduceLT, Int.reduceLE, Int.reduceAdd, Int.reduceSub, Int.reduceMul, Int.reduceNeg, Nat.reduceSub, Nat.reducePow, Nat.reduceDiv, Nat.reduceMod, Zf22, E_masks, masks, Tryz.f22] at ec
      obtain ⟨frd, H8, t13, ed, gd13, od⟩ := loop22d n h.length H7.length H7 t6 tw ts t14' W S (allF S W) (l.length : Nat) (W.length : Nat) (by omega) rfl I.w I.s sA vw vs vA (by omega) (by omega) (by omega) (allF S W) [] (n + 503) [(6, t6), (7, tw), (8, ts), (9, .v (.int .i64 (l.length : Nat))), (10, .v (.int .i64 (l.length : Nat))), (13, nilS), (14, t14'), (15, .v (.int .i64 (W.length : Nat))), (16, .v (.int .i64 0))] H7 [] nilS rfl (by omega) (Nat.le_refl _) (fun _ _ => rfl) rfl (.inl ⟨rfl, rfl⟩) rfl
      rw [List.nil_append] at od
      simp -implicitDefEqProofs only [simA, Nat.reduceAdd, Nat.reduceLT, Nat.reduceEqDiff, Nat.reduceLeDiff, Nat.reduceMul, Int.reduceBEq, Int.reduceBNe, Int.reduceLT, Int.reduceLE, Int.reduceAdd, Int.reduceSub, Int.reduceMul, Int.reduceNeg, Nat.reduceSub, Nat.reducePow, Nat.reduceDiv, Nat.reduceMod, Zf22, E_masks, masks, Tryz.f22] at ed
      have hf := od.frz (n0 := h.length) (by omega) (idfree_incs _)
      rw [call_at (E := E) (f := 22) (fn := Tryz.f22) rfl Tryz.func22 rfl (Nat.le_of_ble_eq_true rfl)]
      rcases hf with ⟨hz, rfl⟩ | ⟨hz, hf⟩
      · have hz' : (allF S W).map (fun r => emitR S W r.to) = [] := List.map_eq_nil_iff.1 hz
        rw [hz']
        rcases hs5 with rfl | rfl
        · simp -implicitDefEqProofs only [simA, Nat.reduceAdd, Nat.reduceLT, Nat.reduceEqDiff, Nat.reduceLeDiff, Nat.reduceMul, Int.reduceBEq, Int.reduceBNe, Int.reduceLT, Int.reduceLE, Int.reduceAdd, Int.reduceSub, Int.reduceMul, Int.reduceNeg, Nat.reduceSub, Nat.reducePow, Nat.reduceDiv, Nat.reduceMod, Zf22, E_masks, masks, Tryz.f22, sx, sy, a4, a5', ea, eb, ec, ed, src8, a7, ga6, ga7, ga8, ga9, ga13, ga14, ga15, ga16, gb6, gb7, gb8, gb9, gb10, gb13, gb14, gb15, gb16, gc6, gc7, gc8, gc9, gc10, gc13, gc14, gc15, gc16, gd13, get_nil, mrgV]
          rfl -- MARKA
        · simp -implicitDefEqProofs only [simA, Nat.reduceAdd, Nat.reduceLT, Nat.reduceEqDiff, Nat.reduceLeDiff, Nat.reduceMul, Int.reduceBEq, Int.reduceBNe, Int.reduceLT, Int.reduceLE, Int.reduceAdd, Int.reduceSub, Int.reduceMul, Int.reduceNeg, Nat.reduceSub, Nat.reducePow, Nat.reduceDiv, Nat.reduceMod, Zf22, E_masks, masks, Tryz.f22, sx, sy, a4, a5', ea, eb, ec, ed, src8, a7, ga6, ga7, ga8, ga9, ga13, ga14, ga15, ga16, gb6, gb7, gb8, gb9, gb10, gb13, gb14, gb15, gb16, gc6, gc7, gc8, gc9, gc10, gc13, gc14, gc15, gc16, gd13, get_nil, mrgV]
          rfl
      · obtain ⟨a, q, hel⟩ : ∃ a q, (allF S W).map (fun r => emitR S W r.to) = a :: q := by
          cases he : (allF S W).map (fun r => emitR S W r.to) with
          | nil => rw [he] at hz; exact (hz rfl).elim
          | cons a q => exact ⟨a, q, rfl⟩
        rw [hel] at hf ⊢
        rcases hs5 with rfl | rfl
        · simp -implicitDefEqProofs only [simA, Nat.reduceAdd, Nat.reduceLT, Nat.reduceEqDiff, Nat.reduceLeDiff, Nat.reduceMul, Int.reduceBEq, Int.reduceBNe, Int.reduceLT, Int.reduceLE, Int.reduceAdd, Int.reduceSub, Int.reduceMul, Int.reduceNeg, Nat.reduceSub, Nat.reducePow, Nat.reduceDiv, Nat.reduceMod, Zf22, E_masks, masks, Tryz.f22, sx, sy, a4, a5', ea, eb, ec, ed, src8, a7, ga6, ga7, ga8, ga9, ga13, ga14, ga15, ga16, gb6, gb7, gb8, gb9, gb10, gb13, gb14, gb15, gb16, gc6, gc7, gc8, gc9, gc10, gc13, gc14, gc15, gc16, gd13, get_nil, hf]
          rfl -- MARKB
        · simp -implicitDefEqProofs only [simA, Nat.reduceAdd, Nat.reduceLT, Nat.reduceEqDiff, Nat.reduceLeDiff, Nat.reduceMul, Int.reduceBEq, Int.reduceBNe, Int.reduceLT, Int.reduceLE, Int.reduceAdd, Int.reduceSub, Int.reduceMul, Int.reduceNeg, Nat.reduceSub, Nat.reducePow, Nat.reduceDiv, Nat.reduceMod, Zf22, E_masks, masks, Tryz.f22, sx, sy, a4, a5', ea, eb, ec, ed, src8, a7, ga6, ga7, ga8, ga9, ga13, ga14, ga15, ga16, gb6, gb7, gb8, gb9, gb10, gb13, gb14, gb15, gb16, gc6, gc7, gc8, gc9, gc10, gc13, gc14, gc15, gc16, gd13, get_nil, hf]
          rfl
    · have hrm : refM l = none := by simp only [refM, qa, Bool.false_eq_true, if_false]; rw [show ([] : List Inc).length = 0 from rfl] at qb; rw [qb]; rfl
      rw [hrm]
      simp -implicitDefEqProofs only [simA, Nat.reduceAdd, Nat.reduceLT, Nat.reduceEqDiff, Nat.reduceLeDiff, Nat.reduceMul, Int.reduceBEq, Int.reduceBNe, Int.reduceLT, Int.reduceLE, Int.reduceAdd, Int.reduceSub, Int.reduceMul, Int.reduceNeg, Nat.reduceSub, Nat.reducePow, Nat.reduceDiv, Nat.reduceMod, Zf22, E_masks, masks, Tryz.f22] at eb
      rw [call_at (E := E) (f := 22) (fn := Tryz.f22) rfl Tryz.func22 rfl (Nat.le_of_ble_eq_true rfl)]
      rcases hs5 with rfl | rfl
      all_goals
        simp -implicitDefEqProofs only [simA, Nat.reduceAdd, Nat.reduceLT, Nat.reduceEqDiff, Nat.reduceLeDiff, Nat.reduceMul, Int.reduceBEq, Int.reduceBNe, Int.reduceLT, Int.reduceLE, Int.reduceAdd, Int.reduceSub, Int.reduceMul, Int.reduceNeg, Nat.reduceSub, Nat.reducePow, Nat.reduceDiv, Nat.reduceMod, Zf22, E_masks, masks, Tryz.f22, sx, sy, a4, a5', ea, eb, ga6, ga7, ga8, ga9, ga13, ga14, ga15, ga16, gb4, gb5, get_nil, mrgV]
        rfl
  · have hrm : refM l = none := by simp [refM, qa]
    rw [hrm]
    simp -implicitDefEqProofs only [simA, Nat.reduceAdd, Nat.reduceLT, Nat.reduceEqDiff, Nat.reduceLeDiff, Nat.reduceMul, Int.reduceBEq, Int.reduceBNe, Int.reduceLT, Int.reduceLE, Int.reduceAdd, Int.reduceSub, Int.reduceMul, Int.reduceNeg, Nat.reduceSub, Nat.reducePow, Nat.reduceDiv, Nat.reduceMod, Zf22, E_masks, masks, Tryz.f22] at ea
    rw [call_at (E := E) (f := 22) (fn := Tryz.f22) rfl Tryz.func22 rfl (Nat.le_of_ble_eq_true rfl)]
    rcases hs5 with rfl | rfl
    all_goals
      simp -implicitDefEqProofs only [simA, Nat.reduceAdd, Nat.reduceLT, Nat.reduceEqDiff, Nat.reduceLeDiff, Nat.reduceMul, Int.reduceBEq, Int.reduceBNe, Int.reduceLT, Int.reduceLE, Int.reduceAdd, Int.reduceSub, Int.reduceMul, Int.reduceNeg, Nat.reduceSub, Nat.reducePow, Nat.reduceDiv, Nat.reduceMod, Zf22, E_masks, masks, Tryz.f22, sx, sy, a4, a5', ea, ga4, ga5, get_nil, mrgV]
      rfl

end Go.Proofs.YtobdjegooonklaaGreat
