/- Two rows of changes merged: what the program answers. Conditions: none. -/
import Derived.Test.YtobdjegooonklaaGreatAmMerge2
set_option linter.unusedSimpArgs false
set_option linter.unusedVariables false
set_option maxRecDepth 100000
set_option maxHeartbeats 1000000
namespace Go.Proofs.YtobdjegooonklaaGreat
open Go Go.AM

theorem emit_len (e : Ef) : (emit e).length ≤ 1 := by unfold emit; split <;> split <;> simp
theorem emits_len (L : Eff3) : ∀ ks : List Pre, (emits L ks).length ≤ ks.length
  | [] => by simp [emits]
  | p :: ks => by
    have := emits_len L ks
    have h1 := emit_len ((lookP L p).getD zEf)
    simp only [emits, List.flatMap_cons, List.length_append, List.length_cons] at this ⊢
    omega

theorem loop21b (n n0 m0 mid kid : Nat) (H0 : Heap) (z : AV) (L : Eff3) (len : Int) (ks : List Pre) (hn0 : n0 ≤ m0) (hmid : mid < m0) (hm : EMap H0 mid L) (w : Wm L) (hkid : H0[kid]? = some (.row 18 0 (ks.map Pre.av) ⟨false, 55⟩)) (hkm : kid < m0) (hp : ∀ p ∈ ks, p.ok) (hbig : ks.length < 490) : ∀ (rest pre : List Pre) (j : Nat) (fr : FR) (H : Heap) (out : List Inc) (t4 : AV), pre ++ rest = ks → rest.length < j → m0 ≤ H.length → (∀ j, j < m0 → H[j]? = H0[j]?) → out.length ≤ pre.length → OutI m0 H (out.map Inc.av) t4 →
    keepF (masks 21) fr = [(4, t4), (6, .map mid), (25, z), (26, .v (.int .i64 len)), (27, .v (.int .i64 len)), (69, .sl kid 0 0 ks.length), (70, .v (.int .i64 (ks.length : Nat))), (71, .v (.int .i64 (pre.length : Nat)))] →
    ∃ fr' H' t', loopN (exec E (call E (n + 507)) (n + 507) 21 111 n0 (loopB Tryz.f21 1)) (masks 21) j ⟨fr, H, [], []⟩ = some (.exit 2, ⟨fr', H', [], []⟩) ∧ AM.get fr' 4 = some t' ∧ OutI m0 H' ((out ++ emits L rest).map Inc.av) t'
  | [], pre, j, fr, H, out, t4, h1, hj, hH, hold, hol, o, hk => by
    obtain ⟨j, rfl⟩ : ∃ i, j = i + 1 := ⟨j - 1, by simp at hj; omega⟩
    have hi : ¬ ((pre.length : Int) < (ks.length : Int)) := by rw [← h1]; simp
    have he : ∃ fr', exec E (call E (n + 507)) (n + 507) 21 111 n0 (loopB Tryz.f21 1) ⟨[(4, t4), (6, .map mid), (25, z), (26, .v (.int .i64 len)), (27, .v (.int .i64 len)), (69, .sl kid 0 0 ks.length), (70, .v (.int .i64 (ks.length : Nat))), (71, .v (.int .i64 (pre.length : Nat)))], H, [], []⟩ = some (.exit 2, ⟨fr', H, [], []⟩) ∧ AM.get fr' 4 = some t4 := by
      rw [exec_code]
      simp -implicitDefEqProofs only [simA, Nat.reduceAdd, Nat.reduceLT, Nat.reduceEqDiff, Nat.reduceLeDiff, Nat.reduceMul, Int.reduceBEq, Int.reduceBNe, Int.reduceLT, Int.reduceLE, Int.reduceAdd, Int.reduceSub, Int.reduceMul, Int.reduceNeg, Nat.reduceSub, Nat.reducePow, Nat.reduceDiv, Nat.reduceMod, Zf21, E_masks, masks, Tryz.f21, hi]
      exact ⟨_, rfl, rfl⟩
    obtain ⟨fr', e1, g4⟩ := he
    exact ⟨fr', H, t4, loopN_outK hk e1, g4, by simpa [emits] using o⟩
  | p :: rest, pre, j, fr, H, out, t4, h1, hj, hH, hold, hol, o, hk => by
    obtain ⟨j, rfl⟩ : ∃ i, j = i + 1 := ⟨j - 1, by simp at hj; omega⟩
    have hpl : pre.length < ks.length := by rw [← h1]; simp
    have hm' : EMap H mid L := by unfold EMap; rw [hold mid hmid]; exact hm
    obtain ⟨fr1, H1, t1, e1, k1, o1, a1, a2⟩ := round21b n n0 m0 mid kid H z t4 L out len ks pre rest p h1 hn0 hH hmid hm' w (by rw [hold kid hkm]; exact hkid) hkm (hp p (by rw [← h1]; simp)) hbig (by omega) o
    rw [loopN_stepK hk e1]
    have hle := emit_len ((lookP L p).getD zEf)
    obtain ⟨fr2, H2, t2, e2, g2, o2⟩ := loop21b n n0 m0 mid kid H0 z L len ks hn0 hmid hm w hkid hkm hp hbig rest (pre ++ [p]) j fr1 H1 _ t1 (by rw [← h1]; simp) (by simp at hj; omega) a1 (fun j hj => by rw [a2 j hj, hold j hj]) (by simp; omega) o1 (by rw [k1]; simp)
    exact ⟨fr2, H2, t2, e2, g2, by simpa [emits, List.append_assoc] using o2⟩

/-- Two rows merged; none: they can't be. -/
def mergeP (A B : List Inc) : Option (List Inc) := if (wrongs A || wrongs B) = true then none else (mfold [] (A ++ B)).map fun L => emits L (skeys L)
def mrgV : Option (List Inc) → AV
  | none => nilS
  | some [] => nilS
  | some l => .lit 21 false (l.map Inc.av)
def mrgE (o : Option (List Inc)) : Int := if o.isSome = true then 0 else 1

theorem RoomAt.slv {h : Heap} {L : List Inc} {z : AV} {H : Heap} (r : RoomAt h L.length L z H) : SlV H 21 z (L.map Inc.av) := by
  rcases r.cat with ⟨rfl, rfl, rfl⟩ | ⟨_, rfl, rfl⟩
  · exact .inl ⟨rfl, rfl⟩
  · exact .inr (.inr ⟨h.length, 0, ⟨false, 60⟩, by simp, by simp⟩)

theorem SlV.fit {h : Heap} {k : Nat} {x : AV} {ys : List AV} (s : SlV h k x ys) : AM.leafs x = 1 ∧ isTupA x = false := by
  rcases s with ⟨rfl, rfl⟩ | ⟨b, rfl⟩ | ⟨id, gen, ex, rfl, _⟩ <;> exact ⟨rfl, rfl⟩
theorem c21 (n : Nat) (h : Heap) (x y : AV) (A B : List Inc) (sx : SlV h 21 x (A.map Inc.av)) (sy : SlV h 21 y (B.map Inc.av)) (hA : ∀ i ∈ A, i.ok) (hB : ∀ i ∈ B, i.ok) (hl : (A ++ B).length < 490) :
    call E (n + 508) 21 [x, y] h = some (.tup [mrgV (mergeP A B), .v (.int .i64 (mrgE (mergeP A B)))], h, ⟨[], [], true⟩) := by
  have hl2 : A.length + B.length < 490 := by simpa using hl
  have a27 := c27 n h x A hA sx (by omega)
  have b27 := c27 n h y B hB sy (by omega)
  by_cases hw : (wrongs A || wrongs B) = true
  · have hmp : mergeP A B = none := by simp [mergeP, hw]
    rw [hmp, call_at (E := E) (f := 21) (fn := Tryz.f21) rfl Tryz.func21 rfl (Nat.le_of_ble_eq_true rfl)]
    cases h1 : wrongs A with
    | true =>
      rw [h1] at a27
      simp -implicitDefEqProofs only [simA, Nat.reduceAdd, Nat.reduceLT, Nat.reduceEqDiff, Nat.reduceLeDiff, Nat.reduceMul, Int.reduceBEq, Int.reduceBNe, Int.reduceLT, Int.reduceLE, Int.reduceAdd, Int.reduceSub, Int.reduceMul, Int.reduceNeg, Nat.reduceSub, Nat.reducePow, Nat.reduceDiv, Nat.reduceMod, Zf21, E_masks, masks, Tryz.f21, a27, mrgV, mrgE]
      rfl
    | false =>
      rw [h1] at a27
      have h2 : wrongs B = true := by simpa [h1] using hw
      rw [h2] at b27
      simp -implicitDefEqProofs only [simA, Nat.reduceAdd, Nat.reduceLT, Nat.reduceEqDiff, Nat.reduceLeDiff, Nat.reduceMul, Int.reduceBEq, Int.reduceBNe, Int.reduceLT, Int.reduceLE, Int.reduceAdd, Int.reduceSub, Int.reduceMul, Int.reduceNeg, Nat.reduceSub, Nat.reducePow, Nat.reduceDiv, Nat.reduceMod, Zf21, E_masks, masks, Tryz.f21, a27, b27, mrgV, mrgE]
      rfl
  · have h1 : wrongs A = false := by cases h : wrongs A <;> simp [h] at hw ⊢
    have h2 : wrongs B = false := by cases h : wrongs B <;> simp [h1, h] at hw ⊢
    rw [h1] at a27
    rw [h2] at b27
    have fx := sx.fit
    have fy := sy.fit
    have hm0 : EMap (h ++ [.map [] 0]) h.length [] := by unfold EMap; rw [end0]; rfl
    obtain ⟨z, H2, e54, r2⟩ := c54 (n + 3) (h ++ [.map [] 0]) x y A B (sx.stay fun j hj => List.getElem?_append_left hj) (sy.stay fun j hj => List.getElem?_append_left hj) hl
    have o2 := r2.old
    have hm2 : EMap H2 h.length [] := by unfold EMap; rw [o2 _ (by simp)]; exact hm0
    have hzm : ∀ g o l, z ≠ .sl h.length g o l := by
      intro g o l e
      rcases r2.cat with ⟨_, rfl, _⟩ | ⟨_, rfl, _⟩
      · cases e
      · injection e with e; simp at e
    have s2 := r2.slv
    have lz : sliceLen z = some (A ++ B).length := by rw [s2.len]; simp
    have hAB : ∀ i ∈ A ++ B, i.ok := fun i hi => by
      rcases List.mem_append.1 hi with hi | hi
      · exact hA i hi
      · exact hB i hi
    have hH2 : h.length ≤ H2.length := by
      have := lt_of_getElem? hm2
      omega
    rcases loop21 n h.length h.length z (A ++ B) (Nat.le_refl _) hAB hl hzm (A ++ B) [] (n + 507) [(4, nilS), (6, .map h.length), (25, z), (26, .v (.int .i64 ((A ++ B).length : Nat))), (27, .v (.int .i64 0))] H2 [] rfl (by omega) hH2 hm2 Wm.nil s2 (Nat.le_refl _) rfl with ⟨fr3, H3, L, q1, e3, g4, g6, g25, g26, g27, g69, g70, g71, hm3, w3, hH3, hL3⟩ | ⟨fr3, H3, q1, e3, g4, g5⟩
    · have hmp : mergeP A B = some (emits L (skeys L)) := by simp [mergeP, h1, h2, q1]
      rw [hmp]
      have e56 := k56 (n + 6) H3 h.length
      have hm4 : EMap (H3 ++ [.row 1 0 [.map h.length] ⟨true, 105⟩]) h.length L := by unfold EMap; rw [List.getElem?_append_left (lt_of_getElem? hm3)]; exact hm3
      have hL4 : ∀ q ∈ L, q.1.ok := fun q hq => (w3.ok q hq).1
      have e55 := k55 (n + 506) (H3 ++ [.row 1 0 [.map h.length] ⟨true, 105⟩]) H3.length h.length L (by rw [end0]; rfl) hm4 hL4 w3.nodup (by omega)
      simp only [Nat.reduceAdd, Nat.add_assoc] at e54 e56 e55
      simp -implicitDefEqProofs only [simA, Nat.reduceAdd, Nat.reduceLT, Nat.reduceEqDiff, Nat.reduceLeDiff, Nat.reduceMul, Int.reduceBEq, Int.reduceBNe, Int.reduceLT, Int.reduceLE, Int.reduceAdd, Int.reduceSub, Int.reduceMul, Int.reduceNeg, Nat.reduceSub, Nat.reducePow, Nat.reduceDiv, Nat.reduceMod, Zf21, E_masks, masks, Tryz.f21] at e3
      by_cases hLn : L = []
      · subst hLn
        rw [if_pos rfl] at e55
        have he : ∃ fr', exec E (call E (n + 507)) (n + 507) 21 111 h.length (loopB Tryz.f21 1) ⟨[(4, nilS), (6, .map h.length), (25, z), (26, .v (.int .i64 ((A ++ B).length : Nat))), (27, .v (.int .i64 ((A ++ B).length : Nat))), (69, nilS), (70, .v (.int .i64 0)), (71, .v (.int .i64 0))], H3 ++ [.row 1 0 [.map h.length] ⟨true, 105⟩], [], []⟩ = some (.exit 2, ⟨fr', H3 ++ [.row 1 0 [.map h.length] ⟨true, 105⟩], [], []⟩) ∧ AM.get fr' 4 = some nilS := by
          rw [exec_code]
          simp -implicitDefEqProofs only [simA, Nat.reduceAdd, Nat.reduceLT, Nat.reduceEqDiff, Nat.reduceLeDiff, Nat.reduceMul, Int.reduceBEq, Int.reduceBNe, Int.reduceLT, Int.reduceLE, Int.reduceAdd, Int.reduceSub, Int.reduceMul, Int.reduceNeg, Nat.reduceSub, Nat.reducePow, Nat.reduceDiv, Nat.reduceMod, Zf21, E_masks, masks, Tryz.f21]
          exact ⟨_, rfl, rfl⟩
        obtain ⟨fr5, e5, g5⟩ := he
        have l5 := loopN_outK (l := masks 21) (n := n + 506) (fr := [(4, nilS), (6, .map h.length), (25, z), (26, .v (.int .i64 ((A ++ B).length : Nat))), (27, .v (.int .i64 ((A ++ B).length : Nat))), (69, nilS), (70, .v (.int .i64 0)), (71, .v (.int .i64 0))]) rfl e5
        simp -implicitDefEqProofs only [simA, Nat.reduceAdd, Nat.reduceLT, Nat.reduceEqDiff, Nat.reduceLeDiff, Nat.reduceMul, Int.reduceBEq, Int.reduceBNe, Int.reduceLT, Int.reduceLE, Int.reduceAdd, Int.reduceSub, Int.reduceMul, Int.reduceNeg, Nat.reduceSub, Nat.reducePow, Nat.reduceDiv, Nat.reduceMod, Zf21, E_masks, masks, Tryz.f21] at l5 e54
        have hemp : emits [] (skeys []) = [] := rfl
        rw [hemp, call_at (E := E) (f := 21) (fn := Tryz.f21) rfl Tryz.func21 rfl (Nat.le_of_ble_eq_true rfl)]
        simp -implicitDefEqProofs only [simA, Nat.reduceAdd, Nat.reduceLT, Nat.reduceEqDiff, Nat.reduceLeDiff, Nat.reduceMul, Int.reduceBEq, Int.reduceBNe, Int.reduceLT, Int.reduceLE, Int.reduceAdd, Int.reduceSub, Int.reduceMul, Int.reduceNeg, Nat.reduceSub, Nat.reducePow, Nat.reduceDiv, Nat.reduceMod, Zf21, E_masks, masks, Tryz.f21, core_mm (show E.P.underlying 105 = some (.map 55 108) by kernel_rfl), a27, b27, fx.1, fx.2, fy.1, fy.2, e54, lz, e3, e56, e55, l5, g4, g6, g25, g26, g27, g5, get_nil, mrgV, mrgE]
        rfl
      · rw [if_neg hLn] at e55
        have hks : (skeys L).length = L.length := skeys_len hL4
        have hkp : ∀ p ∈ skeys L, p.ok := fun p hp => by
          obtain ⟨q, hq, rfl⟩ := List.mem_map.1 ((skeys_perm hL4).subset hp)
          exact hL4 q hq
        have hm5 : EMap (H3 ++ [.row 1 0 [.map h.length] ⟨true, 105⟩, .row 18 0 ((skeys L).map Pre.av) ⟨false, 55⟩]) h.length L := by unfold EMap; rw [List.getElem?_append_left (lt_of_getElem? hm3)]; exact hm3
        have hlt3 := lt_of_getElem? hm3
        obtain ⟨fr5, H5, t5, e5, g5, o5⟩ := loop21b n h.length (H3.length + 2) h.length (H3.length + 1) (H3 ++ [.row 1 0 [.map h.length] ⟨true, 105⟩, .row 18 0 ((skeys L).map Pre.av) ⟨false, 55⟩]) z L ((A ++ B).length : Nat) (skeys L) (by omega) (by omega) hm5 w3 (by rw [end1]; rfl) (by omega) hkp (by omega) (skeys L) [] (n + 507)
          [(4, nilS), (6, .map h.length), (25, z), (26, .v (.int .i64 ((A ++ B).length : Nat))), (27, .v (.int .i64 ((A ++ B).length : Nat))), (69, .sl (H3.length + 1) 0 0 (skeys L).length), (70, .v (.int .i64 ((skeys L).length : Nat))), (71, .v (.int .i64 0))]
          (H3 ++ [.row 1 0 [.map h.length] ⟨true, 105⟩, .row 18 0 ((skeys L).map Pre.av) ⟨false, 55⟩]) [] nilS rfl (by omega) (by simp) (fun _ _ => rfl) (Nat.le_refl _) (.inl ⟨rfl, rfl⟩) rfl
        rw [List.nil_append] at o5
        rw [hks] at e5
        have lk : sliceLen (.sl (H3.length + 1) 0 0 L.length) = some L.length := rfl
        have hf := o5.frz (n0 := h.length) (by omega) (idfree_incs _)
        simp -implicitDefEqProofs only [simA, Nat.reduceAdd, Nat.reduceLT, Nat.reduceEqDiff, Nat.reduceLeDiff, Nat.reduceMul, Int.reduceBEq, Int.reduceBNe, Int.reduceLT, Int.reduceLE, Int.reduceAdd, Int.reduceSub, Int.reduceMul, Int.reduceNeg, Nat.reduceSub, Nat.reducePow, Nat.reduceDiv, Nat.reduceMod, Zf21, E_masks, masks, Tryz.f21] at e5 e54 e55
        rw [call_at (E := E) (f := 21) (fn := Tryz.f21) rfl Tryz.func21 rfl (Nat.le_of_ble_eq_true rfl)]
        rcases hf with ⟨hz, rfl⟩ | ⟨hz, hf⟩
        · have hz' : emits L (skeys L) = [] := List.map_eq_nil_iff.1 hz
          rw [hz']
          simp -implicitDefEqProofs only [simA, Nat.reduceAdd, Nat.reduceLT, Nat.reduceEqDiff, Nat.reduceLeDiff, Nat.reduceMul, Int.reduceBEq, Int.reduceBNe, Int.reduceLT, Int.reduceLE, Int.reduceAdd, Int.reduceSub, Int.reduceMul, Int.reduceNeg, Nat.reduceSub, Nat.reducePow, Nat.reduceDiv, Nat.reduceMod, Zf21, E_masks, masks, Tryz.f21, core_mm (show E.P.underlying 105 = some (.map 55 108) by kernel_rfl), a27, b27, fx.1, fx.2, fy.1, fy.2, e54, lz, lk, e3, e56, e55, e5, g4, g6, g25, g26, g27, g5, get_nil, mrgV, mrgE]
          rfl -- MARKC
        · obtain ⟨a, l, hel⟩ : ∃ a l, emits L (skeys L) = a :: l := by
            cases he : emits L (skeys L) with
            | nil => rw [he] at hz; exact (hz rfl).elim
            | cons a l => exact ⟨a, l, rfl⟩
          simp -implicitDefEqProofs only [simA, Nat.reduceAdd, Nat.reduceLT, Nat.reduceEqDiff, Nat.reduceLeDiff, Nat.reduceMul, Int.reduceBEq, Int.reduceBNe, Int.reduceLT, Int.reduceLE, Int.reduceAdd, Int.reduceSub, Int.reduceMul, Int.reduceNeg, Nat.reduceSub, Nat.reducePow, Nat.reduceDiv, Nat.reduceMod, Zf21, E_masks, masks, Tryz.f21, core_mm (show E.P.underlying 105 = some (.map 55 108) by kernel_rfl), a27, b27, fx.1, fx.2, fy.1, fy.2, e54, lz, lk, e3, e56, e55, e5, g4, g6, g25, g26, g27, g5, get_nil, hf, mrgE]
          rw [hel]
          rfl -- MARKD
    · have hmp : mergeP A B = none := by simp [mergeP, h1, h2, q1]
      rw [hmp]
      simp only [Nat.reduceAdd, Nat.add_assoc] at e54
      simp -implicitDefEqProofs only [simA, Nat.reduceAdd, Nat.reduceLT, Nat.reduceEqDiff, Nat.reduceLeDiff, Nat.reduceMul, Int.reduceBEq, Int.reduceBNe, Int.reduceLT, Int.reduceLE, Int.reduceAdd, Int.reduceSub, Int.reduceMul, Int.reduceNeg, Nat.reduceSub, Nat.reducePow, Nat.reduceDiv, Nat.reduceMod, Zf21, E_masks, masks, Tryz.f21] at e3 e54
      rw [call_at (E := E) (f := 21) (fn := Tryz.f21) rfl Tryz.func21 rfl (Nat.le_of_ble_eq_true rfl)]
      simp -implicitDefEqProofs only [simA, Nat.reduceAdd, Nat.reduceLT, Nat.reduceEqDiff, Nat.reduceLeDiff, Nat.reduceMul, Int.reduceBEq, Int.reduceBNe, Int.reduceLT, Int.reduceLE, Int.reduceAdd, Int.reduceSub, Int.reduceMul, Int.reduceNeg, Nat.reduceSub, Nat.reducePow, Nat.reduceDiv, Nat.reduceMod, Zf21, E_masks, masks, Tryz.f21, core_mm (show E.P.underlying 105 = some (.map 55 108) by kernel_rfl), a27, b27, fx.1, fx.2, fy.1, fy.2, e54, lz, e3, g4, g5, get_nil, mrgV, mrgE]
      rfl

end Go.Proofs.YtobdjegooonklaaGreat
