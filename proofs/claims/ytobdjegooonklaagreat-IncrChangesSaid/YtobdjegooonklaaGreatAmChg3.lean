/- The changes between two tables: what the program answers, and what they do. Conditions: none. -/
import Derived.Test.YtobdjegooonklaaGreatAmChg2
import Derived.Test.YtobdjegooonklaaGreatAmMrg3
set_option linter.unusedSimpArgs false
set_option linter.unusedVariables false
set_option maxRecDepth 100000
set_option maxHeartbeats 1000000
namespace Go.Proofs.YtobdjegooonklaaGreat
open Go Go.AM

theorem Cpy.rem {h h' : Heap} {l : List Route} {s' : AV} (c : Cpy h l s' h') : Rem h' s' l ∧ ∀ id g off n, s' = .sl id g off n → id < h'.length := by
  rcases c with ⟨rfl, rfl, rfl⟩ | ⟨rfl, rfl, rfl⟩ | ⟨hne, rfl, rfl⟩
  · exact ⟨.inl ⟨rfl, rfl⟩, fun _ _ _ _ h => by cases h⟩
  · exact ⟨.inl ⟨rfl, rfl⟩, fun _ _ _ _ h => by cases h⟩
  · exact ⟨.inr ⟨hne, h.length, 0, 0, l.map Route.av, ⟨false, 58⟩, rfl, by rw [end0]; rfl, rfl⟩, fun id g off n h => by injection h with h; subst h; simp⟩

theorem loop24 (n n0 m0 : Nat) (hn0 : n0 ≤ m0) : ∀ (j : Nat) (a b : List Route) (fr : FR) (H : Heap) (out : List Inc) (t4 x y : AV), (∀ r ∈ a, r.ok) → (∀ r ∈ b, r.ok) → a.length + b.length < j → m0 ≤ H.length → out.length + a.length + b.length < 480 → OutI m0 H (out.map Inc.av) t4 → Rem H x a → Rem H y b → (∀ id g off n, x = .sl id g off n → id < m0) → (∀ id g off n, y = .sl id g off n → id < m0) →
    keepF (masks 24) fr = [(4, t4), (5, x), (6, y)] →
    ∃ fr' H' t', loopN (exec E (call E (n + 502)) (n + 502) 24 80 n0 (loopB Tryz.f24 0)) (masks 24) j ⟨fr, H, [], []⟩ = some (.exit 0, ⟨fr', H', [], []⟩) ∧ AM.get fr' 4 = some t' ∧ OutI m0 H' ((out ++ chg a b).map Inc.av) t'
  | 0, a, b, fr, H, out, t4, x, y, ha, hb, hj, hm0, hol, o, rx, ry, hxm, hym, hk => by omega
  | j + 1, [], [], fr, H, out, t4, x, y, ha, hb, hj, hm0, hol, o, rx, ry, hxm, hym, hk => by
    have lx := rx.len
    have ly := ry.len
    simp only [List.length_nil] at lx ly
    have he : ∃ fr', exec E (call E (n + 502)) (n + 502) 24 80 n0 (loopB Tryz.f24 0) ⟨[(4, t4), (5, x), (6, y)], H, [], []⟩ = some (.exit 0, ⟨fr', H, [], []⟩) ∧ AM.get fr' 4 = some t4 := by
      rw [exec_code]
      simp -implicitDefEqProofs only [simA, Nat.reduceAdd, Nat.reduceLT, Nat.reduceEqDiff, Nat.reduceLeDiff, Nat.reduceMul, Int.reduceBEq, Int.reduceBNe, Int.reduceLT, Int.reduceLE, Int.reduceAdd, Int.reduceSub, Int.reduceMul, Int.reduceNeg, Nat.reduceSub, Nat.reducePow, Nat.reduceDiv, Nat.reduceMod, ln_36, prs_24_4, und_36, sz_58, fo_58_0, sz_55, agg_55, bd_58, bd_60, bs_22_1_24, ap_22_22, src_22, agg_58, prs_24_9, keep_24, E_masks, masks, rows_24, Tryz.f24, lx, ly]
      exact ⟨_, rfl, rfl⟩
    obtain ⟨fr', e1, g⟩ := he
    exact ⟨fr', H, t4, loopN_outK hk e1, g, by rw [chg]; simpa using o⟩
  | j + 1, [], b :: lb, fr, H, out, t4, x, y, ha, hb, hj, hm0, hol, o, rx, ry, hxm, hym, hk => by
    simp only [List.length_cons, List.length_nil] at hj hol
    obtain ⟨fr1, H1, t1, x1, y1, e1, k1, o1, rx1, ry1, m1, q1, hx1, hy1⟩ := round24a n n0 m0 H t4 x y out hn0 hm0 (by omega) o hxm hym b lb (hb b (List.mem_cons_self ..)) rx ry
    rw [loopN_stepK hk e1, chg]
    obtain ⟨fr', H', t', g1, g2, g3⟩ := loop24 n n0 m0 hn0 j [] lb fr1 H1 (out ++ [(⟨1, b⟩ : Inc)]) t1 x1 y1 ha (fun r hr => hb r (List.mem_cons_of_mem _ hr)) (by simp only [List.length_nil]; omega) m1 (by simp only [List.length_append, List.length_cons, List.length_nil]; omega) o1 rx1 ry1 hx1 hy1 k1
    exact ⟨fr', H', t', g1, g2, by simpa [List.append_assoc] using g3⟩
  | j + 1, a :: la, [], fr, H, out, t4, x, y, ha, hb, hj, hm0, hol, o, rx, ry, hxm, hym, hk => by
    simp only [List.length_cons, List.length_nil] at hj hol
    obtain ⟨fr1, H1, t1, x1, y1, e1, k1, o1, rx1, ry1, m1, q1, hx1, hy1⟩ := round24b n n0 m0 H t4 x y out hn0 hm0 (by omega) o hxm hym a la [] (ha a (List.mem_cons_self ..)) rx ry (.inl rfl)
    rw [loopN_stepK hk e1, chg]
    obtain ⟨fr', H', t', g1, g2, g3⟩ := loop24 n n0 m0 hn0 j la [] fr1 H1 (out ++ [(⟨3, bare a.to⟩ : Inc)]) t1 x1 y1 (fun r hr => ha r (List.mem_cons_of_mem _ hr)) hb (by simp only [List.length_nil]; omega) m1 (by simp only [List.length_append, List.length_cons, List.length_nil]; omega) o1 rx1 ry1 hx1 hy1 k1
    exact ⟨fr', H', t', g1, g2, by simpa [List.append_assoc] using g3⟩
  | j + 1, a :: la, b :: lb, fr, H, out, t4, x, y, ha, hb, hj, hm0, hol, o, rx, ry, hxm, hym, hk => by
    simp only [List.length_cons] at hj hol
    have hao := ha a (List.mem_cons_self ..)
    have hbo := hb b (List.mem_cons_self ..)
    have ha' : ∀ r ∈ la, r.ok := fun r hr => ha r (List.mem_cons_of_mem _ hr)
    have hb' : ∀ r ∈ lb, r.ok := fun r hr => hb r (List.mem_cons_of_mem _ hr)
    by_cases hlt : cmpP a.to b.to < 0
    · obtain ⟨fr1, H1, t1, x1, y1, e1, k1, o1, rx1, ry1, m1, q1, hx1, hy1⟩ := round24b n n0 m0 H t4 x y out hn0 hm0 (by omega) o hxm hym a la (b :: lb) hao rx ry (.inr ⟨b, lb, rfl, hbo, hlt⟩)
      rw [loopN_stepK hk e1, chg, if_pos hlt]
      obtain ⟨fr', H', t', g1, g2, g3⟩ := loop24 n n0 m0 hn0 j la (b :: lb) fr1 H1 (out ++ [(⟨3, bare a.to⟩ : Inc)]) t1 x1 y1 ha' hb (by simp only [List.length_cons]; omega) m1 (by simp only [List.length_append, List.length_cons, List.length_nil]; omega) o1 rx1 ry1 hx1 hy1 k1
      exact ⟨fr', H', t', g1, g2, by simpa [List.append_assoc] using g3⟩
    · obtain ⟨fr1, H1, t1, x1, y1, e1, k1, o1, rx1, ry1, m1, q1, hx1, hy1⟩ := round24c n n0 m0 H t4 x y out hn0 hm0 (by omega) o hxm hym a b la lb hao hbo rx ry hlt
      rw [loopN_stepK hk e1, chg, if_neg hlt]
      by_cases hgt : 0 < cmpP a.to b.to
      · simp only [if_pos hgt] at o1 rx1 ⊢
        obtain ⟨fr', H', t', g1, g2, g3⟩ := loop24 n n0 m0 hn0 j (a :: la) lb fr1 H1 (out ++ [(⟨1, b⟩ : Inc)]) t1 x1 y1 ha hb' (by simp only [List.length_cons]; omega) m1 (by simp only [List.length_append, List.length_cons, List.length_nil]; omega) o1 rx1 ry1 hx1 hy1 k1
        exact ⟨fr', H', t', g1, g2, by simpa [List.append_assoc] using g3⟩
      · simp only [if_neg hgt] at o1 rx1 ⊢
        have hle : (if a = b then ([] : List Inc) else [⟨2, b⟩]).length ≤ 1 := by split <;> simp
        obtain ⟨fr', H', t', g1, g2, g3⟩ := loop24 n n0 m0 hn0 j la lb fr1 H1 (out ++ (if a = b then ([] : List Inc) else [⟨2, b⟩])) t1 x1 y1 ha' hb' (by omega) m1 (by simp only [List.length_append]; omega) o1 rx1 ry1 hx1 hy1 k1
        exact ⟨fr', H', t', g1, g2, by rw [List.append_assoc] at g3; exact g3⟩

def chgV (l : List Inc) : AV := match l with
  | [] => nilS
  | l => .lit 21 false (l.map Inc.av)

theorem c24 (n : Nat) (h : Heap) (t u : Nat) (s r : AV) (a b : List Route) (ht : h[t]? = some (.row 1 0 [.agg [s]] ⟨true, 99⟩)) (hu : h[u]? = some (.row 1 0 [.agg [r]] ⟨true, 99⟩)) (va : RV h s a) (vb : RV h r b) (ha : ∀ i ∈ a, i.ok) (hb : ∀ i ∈ b, i.ok) (la : a.length < 200) (lb : b.length < 200) :
    call E (n + 503) 24 [.ptr t 0 0 [] 0, .ptr u 0 0 [] 0] h = some (chgV (chg a b), h, ⟨[], [], true⟩) := by
  obtain ⟨s1, H1, e1, d1⟩ := c17 (n + 1) h t s a ht va (by omega)
  obtain ⟨g1, q1⟩ := d1.old
  obtain ⟨s2, H2, e2, d2⟩ := c17 (n + 1) H1 u r b (by rw [q1 u (lt_of_getElem? hu)]; exact hu) (vb.stay q1) (by omega)
  obtain ⟨g2, q2⟩ := d2.old
  obtain ⟨r1, m1⟩ := d1.rem
  obtain ⟨r2, m2⟩ := d2.rem
  have r1' : Rem H2 s1 a := r1.stay m1 q2
  obtain ⟨fr', H', t', f1, f2, f3⟩ := loop24 n h.length H2.length (by omega) (n + 502) a b [(4, nilS), (5, s1), (6, s2)] H2 [] nilS s1 s2 ha hb (by omega) (Nat.le_refl _) (by simp only [List.length_nil]; omega) (.inl ⟨rfl, rfl⟩) r1' r2 (fun id g off n h => by have := m1 id g off n h; omega) m2 rfl
  rw [List.nil_append] at f3
  have hf := f3.frz (n0 := h.length) (by omega) (idfree_incs _)
  simp only [Nat.add_assoc, Nat.reduceAdd] at e1 e2
  simp -implicitDefEqProofs only [simA, Nat.reduceAdd, Nat.reduceLT, Nat.reduceEqDiff, Nat.reduceLeDiff, Nat.reduceMul, Int.reduceBEq, Int.reduceBNe, Int.reduceLT, Int.reduceLE, Int.reduceAdd, Int.reduceSub, Int.reduceMul, Int.reduceNeg, Nat.reduceSub, Nat.reducePow, Nat.reduceDiv, Nat.reduceMod, ln_36, prs_24_4, und_36, sz_58, fo_58_0, sz_55, agg_55, bd_58, bd_60, bs_22_1_24, ap_22_22, src_22, agg_58, prs_24_9, keep_24, E_masks, masks, rows_24, Tryz.f24] at f1
  rw [call_at (E := E) (f := 24) (fn := Tryz.f24) rfl Tryz.func24 rfl (Nat.le_of_ble_eq_true rfl)]
  rcases hf with ⟨hz, rfl⟩ | ⟨hz, hf⟩
  · have hz' : chg a b = [] := List.map_eq_nil_iff.1 hz
    rw [hz']
    simp -implicitDefEqProofs only [simA, Nat.reduceAdd, Nat.reduceLT, Nat.reduceEqDiff, Nat.reduceLeDiff, Nat.reduceMul, Int.reduceBEq, Int.reduceBNe, Int.reduceLT, Int.reduceLE, Int.reduceAdd, Int.reduceSub, Int.reduceMul, Int.reduceNeg, Nat.reduceSub, Nat.reducePow, Nat.reduceDiv, Nat.reduceMod, ln_36, prs_24_4, und_36, sz_58, fo_58_0, sz_55, agg_55, bd_58, bd_60, bs_22_1_24, ap_22_22, src_22, agg_58, prs_24_9, keep_24, E_masks, masks, rows_24, Tryz.f24, e1, e2, f1, f2, get_nil, chgV]
    try rfl -- MARKA
  · obtain ⟨c, l, hel⟩ : ∃ c l, chg a b = c :: l := by
      cases he : chg a b with
      | nil => rw [he] at hz; exact (hz rfl).elim
      | cons c l => exact ⟨c, l, rfl⟩
    simp -implicitDefEqProofs only [simA, Nat.reduceAdd, Nat.reduceLT, Nat.reduceEqDiff, Nat.reduceLeDiff, Nat.reduceMul, Int.reduceBEq, Int.reduceBNe, Int.reduceLT, Int.reduceLE, Int.reduceAdd, Int.reduceSub, Int.reduceMul, Int.reduceNeg, Nat.reduceSub, Nat.reducePow, Nat.reduceDiv, Nat.reduceMod, ln_36, prs_24_4, und_36, sz_58, fo_58_0, sz_55, agg_55, bd_58, bd_60, bs_22_1_24, ap_22_22, src_22, agg_58, prs_24_9, keep_24, E_masks, masks, rows_24, Tryz.f24, e1, e2, f1, f2, get_nil, hf]
    rw [hel]
    try rfl -- MARKB

end Go.Proofs.YtobdjegooonklaaGreat
