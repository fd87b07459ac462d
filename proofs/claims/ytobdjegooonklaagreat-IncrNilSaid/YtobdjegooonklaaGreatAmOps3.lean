/- Parts, indexes and slices of the abstract machine are those of the real one. Conditions: none. -/
import Derived.Test.YtobdjegooonklaaGreatAmOps2
set_option linter.unusedVariables false
set_option linter.unusedSimpArgs false
namespace Go.AM
open Go

variable {F : Fz} {m : Mp} {fr : FR} {a : Act} {h : Heap} {w : World} {P : Program}

theorem FC.sub {ad : Addr} {cs ds : List Value} {o : Nat} (hc : FC F ad cs) (hs : ad.spot = none) (hd : ∀ j c, ds[j]? = some c → cs[o + j]? = some c) : FC F (ad.add o) ds := fun j v hj => by
  obtain ⟨c, e, fz, h1, h2⟩ := hc _ v (hd j v hj)
  rw [add_any hs]
  exact ⟨c, e, fz, h1, by simpa [Nat.add_assoc] using h2⟩

theorem spot_add {ad : Addr} (hs : ad.spot = none) (o : Nat) : (ad.add o).spot = none := by rw [add_any hs]

theorem drop_take_get {cs : List Value} {o n j : Nat} {c : Value} (hj : ((cs.drop o).take n)[j]? = some c) : cs[o + j]? = some c := by
  simp only [List.getElem?_take, List.getElem?_drop] at hj
  split at hj
  · exact hj
  · cases hj

theorem fieldOf_eq {t : TypeId} {f off n : Nat} (ho : fieldOf P t f = some (off, n)) : ∃ fs d, P.underlying t = some (.struct fs) ∧ fs[f]? = some d ∧ d.offset = off ∧ szOf P d.type = some n := by
  unfold fieldOf at ho
  split at ho
  · rename_i fs hu
    split at ho
    · rename_i d hd
      split at ho
      · rename_i n' hn
        simp only [Option.some.injEq, Prod.mk.injEq] at ho
        obtain ⟨rfl, rfl⟩ := ho
        exact ⟨fs, d, hu, hd, rfl, hn⟩
      · cases ho
    · cases ho
  · cases ho

theorem fieldAddr_run {t : TypeId} {p y : AV} {f : Nat} {pv : Value} (hp : VRel F m p pv) (ho : fieldAddrE P t p f = some y) : ∃ v, (Instr.fieldAt t pv f).run P w = .ok v w ∧ VRel F m y v := by
  unfold fieldAddrE at ho
  split at ho
  · rename_i off n hf
    cases hn : Nat.beq n 0 with
    | true => simp [hn] at ho
    | false =>
      simp only [hn, cond_false] at ho
      obtain ⟨fs, d, h1, h2, h3, h4⟩ := fieldOf_eq hf
      have hn0 : n ≠ 0 := fun e => by subst e; simp at hn
      have run : ∀ ad : Addr, (Instr.fieldAt t (.pointer (some ad)) f).run P w = .ok (.pointer (some (ad.add off))) w := by
        intro ad
        simp [-bind_pure_comp, Instr.fieldAt, run_underlying h1, h2, Instr.sureAddr, fieldPlace, szOf_run h4, hn0, h3]
      split at ho
      · rename_i id gen i p' o
        injection ho with ho
        subst ho
        simp only [VRel] at hp
        obtain ⟨g, C, k, g1, rfl⟩ := hp
        refine ⟨_, run _, ?_⟩
        simp only [VRel]
        exact ⟨g, C, k, g1, by rw [add_off, Nat.add_assoc]⟩
      · rename_i l
        split at ho
        · rename_i y' hnav
          injection ho with ho
          subst ho
          simp only [VRel] at hp
          obtain ⟨ad, z, ⟨cs, g1, rfl⟩, g2, g3, g4, rfl⟩ := hp
          obtain ⟨z', k1, k2, k3, k4⟩ := navL_rel l f [] off y' hnav cs g1
          refine ⟨_, run _, ?_⟩
          simp only [VRel]
          refine ⟨_, z', k1, k2, FC.sub g3 g4 (fun j c hj => ?_), spot_add g4 _, rfl⟩
          rw [k3] at hj
          simpa [Value.cells] using drop_take_get hj
        · cases ho
      · cases ho
  · cases ho

theorem part_run {t : TypeId} {l : List AV} {f : Nat} {p : List Nat} {off : Nat} {y : AV} {cs : List Value} (hc : CL F m l cs) (hn : partE P t (navL l f p off) = some y) :
    ∃ z, (part t cs.toArray off).run P w = .ok z w ∧ VRel F m y z := by
  obtain ⟨h1, h2, h3⟩ := partE_eq hn
  obtain ⟨z, k1, k2, k3, k4⟩ := navL_rel l f p off y h1 cs hc
  refine ⟨z, ?_, k1⟩
  unfold part
  simp only [Sem.run_bind, aggT_run h3, Result.andThen_ok]
  have hz := VRel.size y z k1 k2
  have hcl := CL.size _ _ hc
  cases hg : isAggA y with
  | true =>
    simp only [if_true, Sem.run_bind, szOf_run h2, Result.andThen_ok, Sem.run_pure]
    cases y <;> simp [isAggA] at hg
    obtain ⟨g1, _⟩ := k1.ofAgg
    rw [g1]
    congr 2
    apply Array.toList_inj.1
    rw [k3]
    simp [Array.toList_extract, List.extract]
  | false =>
    have g1 := k1.scalar k2 hg
    rw [g1] at k3
    have hl : leafs y = 1 := by rw [← hz, g1]; rfl
    have h0 : cs[off]? = some z := by
      have := drop_take_get (cs := cs) (o := off) (n := leafs y) (j := 0) (c := z) (by rw [← k3]; simp)
      simpa using this
    simp [h0]

theorem field_run {t : TypeId} {x y : AV} {f : Nat} {xv : Value} (hx : VRel F m x xv) (ho : fieldE P t x f = some y) : ∃ v, (Instr.field t xv f).run P w = .ok v w ∧ VRel F m y v := by
  unfold fieldE at ho
  split at ho
  · rename_i l fs hu
    split at ho
    · rename_i d hd
      simp only [VRel] at hx
      obtain ⟨cs, h1, rfl⟩ := hx
      obtain ⟨z, z1, z2⟩ := part_run (w := w) h1 ho
      exact ⟨z, by simp [Instr.field, run_underlying hu, hd, asAgg, z1], z2⟩
    · cases ho
  · cases ho

theorem idx_eq {ix : AV} {len j : Nat} {iv : Value} (hi : idx ix len = some j) (hv : VRel F m ix iv) : ∃ k n, iv = .int k n ∧ 0 ≤ n ∧ n < (len : Int) ∧ n.toNat = j := by
  unfold idx at hi
  split at hi
  · rename_i k n
    cases hb : (decide (0 ≤ n) && decide (n < (len : Int))) with
    | false => simp [hb] at hi
    | true =>
      simp only [hb, cond_true, Option.some.injEq] at hi
      rw [Bool.and_eq_true, decide_eq_true_eq, decide_eq_true_eq] at hb
      simp only [VRel] at hv
      exact ⟨k, n, hv.2, hb.1, hb.2, hi⟩
  · cases hi

/-! ### Slices read -/
structure Els (F : Fz) (m : Mp) (w : World) (k : Nat) (l : List AV) (v : Value) (ad : Addr) (cap : Nat) (cs : List Value) : Prop where
  val : v = .slice (some ad) l.length cap
  spot : ad.spot = none
  cells : CL F m l cs
  all : allK k l = true
  mem : ∀ j c, cs[j]? = some c → w.cell? (ad.add j) = some c
  cap : l.length ≤ cap

theorem sl_row (r : Rel F m h w) {id gen off len : Nat} {v : Value} (hv : VRel F m (.sl id gen off len) v) {k : Nat} {els : List AV} {ex : Tag} (hr : h[id]? = some (.row k gen els ex)) :
    ∃ g C e cur ad, RowR F m w id k gen els ex g C e cur ∧ off + len ≤ C ∧ ad.block = g ∧ ad.spot = none ∧ (off < C → ad.off = off * k) ∧ v = .slice (some ad) len (C - off) := by
  simp only [VRel] at hv
  obtain ⟨g, C, k1, ad, h1, h2, h3, h4, h5, rfl⟩ := hv
  obtain ⟨g2, C2, e2, cur, xr⟩ := r.row _ _ _ _ _ hr
  have hm := xr.mp
  rw [h1] at hm
  injection hm with hm
  injection hm with hm1 hm2
  injection hm2 with hm2 hm3
  subst hm1; subst hm2; subst hm3
  exact ⟨_, _, _, _, ad, xr, h2, h3, h4, h5, rfl⟩

theorem isl_row (r : Rel F m h w) {id gen i o k off len n : Nat} {p : List Nat} {v : Value} (hv : VRel F m (.isl id gen i p o k off len n) v) {K : Nat} {els : List AV} {ex : Tag} (hr : h[id]? = some (.row K gen els ex)) :
    ∃ g C e cur ad, RowR F m w id K gen els ex g C e cur ∧ off + len ≤ n ∧ ad.block = g ∧ ad.spot = none ∧ (off < n → ad.off = i * K + o + off * k) ∧ v = .slice (some ad) len (n - off) := by
  simp only [VRel] at hv
  obtain ⟨g, C, k1, ad, h1, h2, h3, h4, h5, rfl⟩ := hv
  obtain ⟨g2, C2, e2, cur, xr⟩ := r.row _ _ _ _ _ hr
  have hm := xr.mp
  rw [h1] at hm
  injection hm with hm
  injection hm with hm1 hm2
  injection hm2 with hm2 hm3
  subst hm1; subst hm2; subst hm3
  exact ⟨_, _, _, _, ad, xr, h2, h3, h4, h5, rfl⟩

theorem elsOf_rel (r : Rel F m h w) {x : AV} {v : Value} {k : Nat} {l : List AV} (he : elsOf h x = some (k, l)) (hv : VRel F m x v) : ∃ ad cap cs, Els F m w k l v ad cap cs := by
  cases x with
  | lit k' full l' =>
    simp only [elsOf, Option.some.injEq, Prod.mk.injEq] at he
    obtain ⟨rfl, rfl⟩ := he
    simp only [VRel] at hv
    obtain ⟨ad, cap, cs, h1, h2, h3, h4, h5, h6, rfl⟩ := hv
    refine ⟨ad, cap, cs, rfl, h4, h1, h2, fun j c hj => ?_, h5⟩
    obtain ⟨c', e, fz, f1, f2⟩ := h3 j c hj
    rw [add_any h4]
    simp [World.cell?, r.fz _ _ f1, f2]
  | sl id gen off len =>
    simp only [elsOf] at he
    split at he
    · rename_i k' g els ex hr
      cases hb : (Nat.beq g gen && Nat.ble (off + len) els.length) with
      | false => simp [hb] at he
      | true =>
        simp only [hb, cond_true, Option.some.injEq, Prod.mk.injEq] at he
        obtain ⟨rfl, rfl⟩ := he
        rw [Bool.and_eq_true] at hb
        have e1 : g = gen := Nat.eq_of_beq_eq_true hb.1
        have e2 : off + len ≤ els.length := Nat.le_of_ble_eq_true hb.2
        subst e1
        obtain ⟨gb, C, e, cur, ad, xr, h1, h2, h3, h4, rfl⟩ := sl_row r hv hr
        have hl : ((els.drop off).take len).length = len := by simp; omega
        refine ⟨ad, C - off, _, by rw [hl], h3, CL_take (CL_drop xr.cells xr.all off) (allK_drop off xr.all) len, allK_take len (allK_drop off xr.all), fun j c hj => ?_, by rw [hl]; omega⟩
        have hj' := lt_of_getElem? hj
        have hpos : 0 < len * k' := by
          have : ((cur.toList.take (els.length * k')).drop (off * k')).take (len * k') ≠ [] := fun e0 => by rw [e0] at hj; simp at hj
          rcases Nat.eq_zero_or_pos (len * k') with h0 | h0
          · rw [h0] at this; simp at this
          · exact h0
        have hlen : 0 < len := Nat.pos_of_mul_pos_right hpos
        have hoff := h4 (by omega)
        have hc := drop_take_get hj
        simp only [List.getElem?_take] at hc
        split at hc
        · rw [add_any h3, h2, hoff]
          simp only [World.cell?, xr.heap]
          simpa using hc
        · cases hc
    · cases he
  | isl id gen i p o k' off len n =>
    simp only [elsOf] at he
    split at he
    · rename_i K g els ex hr
      cases hg : Nat.beq g gen with
      | false => simp [hg] at he
      | true =>
        simp only [hg, cond_true] at he
        have e1 : g = gen := Nat.eq_of_beq_eq_true hg
        subst e1
        split at he
        · rename_i z hi
          split at he
          · rename_i l' hn
            cases hb : (Nat.beq l'.length n && allK k' l' && Nat.ble (off + len) n) with
            | false => simp [hb] at he
            | true =>
              simp only [hb, cond_true, Option.some.injEq, Prod.mk.injEq] at he
              obtain ⟨rfl, rfl⟩ := he
              rw [Bool.and_eq_true, Bool.and_eq_true] at hb
              have e1 : l'.length = n := Nat.eq_of_beq_eq_true hb.1.1
              have e2 : allK k' l' = true := hb.1.2
              have e3 : off + len ≤ n := Nat.le_of_ble_eq_true hb.2
              obtain ⟨gb, C, e, cur, ad, xr, h1, h2, h3, h4, rfl⟩ := isl_row r hv hr
              obtain ⟨v, v1, v2, v3, v4, v5⟩ := row_cells xr hi hn
              obtain ⟨v6, v7⟩ := v1.ofAgg
              have hl : ((l'.drop off).take len).length = len := by simp; omega
              refine ⟨ad, n - off, _, by rw [hl], h3, CL_take (CL_drop v7 e2 off) (allK_drop off e2) len, allK_take len (allK_drop off e2), fun j c hj => ?_, by rw [hl]; omega⟩
              have hpos : 0 < len * k' := by
                have : (v.cells.toList.drop (off * k')).take (len * k') ≠ [] := fun e0 => by rw [e0] at hj; simp at hj
                rcases Nat.eq_zero_or_pos (len * k') with h0 | h0
                · rw [h0] at this; simp at this
                · exact h0
              have hlen : 0 < len := Nat.pos_of_mul_pos_right hpos
              have hoff := h4 (by omega)
              have hc := v3 _ c (drop_take_get hj)
              rw [add_any h3, h2, hoff]
              rw [show i * K + o + off * k' + j = i * K + o + (off * k' + j) by omega]
              exact hc
          · cases he
        · cases he
    · cases he
  | _ => simp [elsOf] at he

theorem sliceLen_rel {x : AV} {v : Value} {n : Nat} (hs : sliceLen x = some n) (hv : VRel F m x v) : ∃ ad cap, v = .slice ad n cap := by
  cases x with
  | v y =>
    simp only [VRel] at hv
    obtain ⟨_, rfl⟩ := hv
    unfold sliceLen at hs
    split at hs <;> simp_all
  | lit k full l =>
    simp only [VRel] at hv
    obtain ⟨ad, cap, cs, _, _, _, _, _, _, rfl⟩ := hv
    simp only [sliceLen, Option.some.injEq] at hs
    exact ⟨_, _, by rw [hs]⟩
  | sl id gen off len =>
    simp only [VRel] at hv
    obtain ⟨g, C, k, ad, _, _, _, _, _, rfl⟩ := hv
    simp only [sliceLen, Option.some.injEq] at hs
    exact ⟨_, _, by rw [hs]⟩
  | isl id gen i p o k off len n =>
    simp only [VRel] at hv
    obtain ⟨g, C, k, ad, _, _, _, _, _, rfl⟩ := hv
    simp only [sliceLen, Option.some.injEq] at hs
    exact ⟨_, _, by rw [hs]⟩
  | _ => simp [sliceLen] at hs

/-! ### Addresses of elements, elements -/
theorem indexAt_run {t : TypeId} {e : TypeId} {n : Nat} {base : Addr} {x : Value} {k : IntKind} {i : Int} {s : Nat} (hx : (P.underlying t = some (.array n e) ∧ x = .pointer (some base)) ∨ (∃ c, P.underlying t = some (.slice e) ∧ x = .slice (some base) n c))
    (h0 : 0 ≤ i) (h1 : i < (n : Int)) (hs : szOf P e = some s) : (Instr.indexAt t x (.int k i)).run P w = .ok (.pointer (some (base.add (i.toNat * s)))) w := by
  rcases hx with ⟨hu, rfl⟩ | ⟨c, hu, rfl⟩ <;>
    simp [-bind_pure_comp, Instr.indexAt, asIntOf, run_underlying hu, Instr.sureAddr, h0, h1, szOf_run hs]

theorem indexAddr_run (r : Rel F m h w) {t : TypeId} {p ix y : AV} {pv iv : Value} (hp : VRel F m p pv) (hi : VRel F m ix iv) (ho : indexAddrE P h t p ix = some y) :
    ∃ v, (Instr.indexAt t pv iv).run P w = .ok v w ∧ VRel F m y v := by
  unfold indexAddrE at ho
  split at ho
  · rename_i len e hu
    split at ho
    · rename_i k j hk hj
      obtain ⟨ki, n, rfl, h0, h1, h2⟩ := idx_eq hj hi
      split at ho
      · rename_i id gen i pa o
        injection ho with ho
        subst ho
        simp only [VRel] at hp
        obtain ⟨g, C, k1, g1, rfl⟩ := hp
        refine ⟨_, indexAt_run (.inl ⟨hu, rfl⟩) h0 h1 hk, ?_⟩
        simp only [VRel]
        exact ⟨g, C, k1, g1, by rw [add_off, h2, Nat.add_assoc]⟩
      · rename_i l
        split at ho
        · rename_i y' hn
          injection ho with ho
          subst ho
          simp only [VRel] at hp
          obtain ⟨ad, z, ⟨cs, g1, rfl⟩, g2, g3, g4, rfl⟩ := hp
          obtain ⟨z', k1, k2, k3, k4⟩ := navL_rel l j [] (j * k) y' hn cs g1
          refine ⟨_, indexAt_run (.inl ⟨hu, rfl⟩) h0 h1 hk, ?_⟩
          simp only [VRel]
          refine ⟨_, z', k1, k2, FC.sub g3 g4 (fun q c hq => ?_), spot_add g4 _, rfl⟩
          rw [k3] at hq
          rw [h2]
          simpa [Value.cells] using drop_take_get hq
        · cases ho
      · cases ho
    · cases ho
  · rename_i e hu
    split at ho
    · rename_i k k' full l hk
      split at ho
      · rename_i j hj
        cases hb : Nat.beq k k' with
        | false => simp [hb] at ho
        | true =>
          simp only [hb, cond_true] at ho
          have ek : k = k' := Nat.eq_of_beq_eq_true hb
          subst ek
          split at ho
          · rename_i y' hl
            injection ho with ho
            subst ho
            obtain ⟨ki, n, rfl, h0, h1, h2⟩ := idx_eq hj hi
            simp only [VRel] at hp
            obtain ⟨ad, cap, cs, g1, g2, g3, g4, g5, g6, rfl⟩ := hp
            obtain ⟨z', k1, k2, k3⟩ := CL_get g1 g2 hl
            refine ⟨_, indexAt_run (.inr ⟨cap, hu, rfl⟩) h0 h1 hk, ?_⟩
            simp only [VRel]
            refine ⟨_, z', k1, k2, FC.sub g3 g4 (fun q c hq => ?_), spot_add g4 _, rfl⟩
            rw [k3] at hq
            rw [h2]
            exact drop_take_get hq
          · cases ho
      · cases ho
    · rename_i k id gen off len hk
      split at ho
      · rename_i j k' g els ex hj hr
        cases hb : (Nat.beq k k' && Nat.beq g gen) with
        | false => simp [hb] at ho
        | true =>
          simp only [hb, cond_true, Option.some.injEq] at ho
          subst ho
          rw [Bool.and_eq_true] at hb
          have ek : k = k' := Nat.eq_of_beq_eq_true hb.1
          have eg : g = gen := Nat.eq_of_beq_eq_true hb.2
          subst ek; subst eg
          obtain ⟨ki, n, rfl, h0, h1, h2⟩ := idx_eq hj hi
          obtain ⟨gb, C, e', cur, ad, xr, g1, g2, g3, g4, rfl⟩ := sl_row r hp hr
          refine ⟨_, indexAt_run (.inr ⟨_, hu, rfl⟩) h0 h1 hk, ?_⟩
          simp only [VRel]
          refine ⟨gb, C, k, xr.mp, ?_⟩
          have hoff := g4 (by omega)
          rw [add_any g3, g2, hoff, h2, Nat.add_zero, Nat.add_mul]
      · cases ho
    · rename_i k id gen i pa o k' off len n hk
      split at ho
      · rename_i j hj
        cases hb : Nat.beq k k' with
        | false => simp [hb] at ho
        | true =>
          simp only [hb, cond_true, Option.some.injEq] at ho
          subst ho
          have ek : k = k' := Nat.eq_of_beq_eq_true hb
          subst ek
          obtain ⟨ki, nn, rfl, h0, h1, h2⟩ := idx_eq hj hi
          simp only [VRel] at hp
          obtain ⟨g, C, K, ad, g1, g2, g3, g4, g5, rfl⟩ := hp
          refine ⟨_, indexAt_run (.inr ⟨_, hu, rfl⟩) h0 h1 hk, ?_⟩
          simp only [VRel]
          refine ⟨g, C, K, g1, ?_⟩
          have hoff := g5 (by omega)
          rw [add_any g4, g3, hoff, h2, Nat.add_mul]
          congr 3
          omega
      · cases ho
    · cases ho
  · cases ho

theorem index_run {t : TypeId} {x ix y : AV} {xv iv : Value} (hx : VRel F m x xv) (hi : VRel F m ix iv) (ho : indexE P t x ix = some y) : ∃ v, (Instr.index t xv iv).run P w = .ok v w ∧ VRel F m y v := by
  unfold indexE at ho
  split at ho
  · rename_i len e l hu
    split at ho
    · rename_i k j hk hj
      obtain ⟨ki, n, rfl, h0, h1, h2⟩ := idx_eq hj hi
      simp only [VRel] at hx
      obtain ⟨cs, g1, rfl⟩ := hx
      obtain ⟨z, z1, z2⟩ := part_run (w := w) g1 ho
      refine ⟨z, ?_, z2⟩
      simp [-bind_pure_comp, Instr.index, asIntOf, run_underlying hu, h0, h1, szOf_run hk, h2, z1]
    · cases ho
  · rename_i s hu
    split at ho
    · rename_i j hj
      obtain ⟨ki, n, rfl, h0, h1, h2⟩ := idx_eq hj hi
      split at ho
      · rename_i b hb
        injection ho with ho
        subst ho
        simp only [VRel] at hx
        obtain ⟨_, rfl⟩ := hx
        refine ⟨_, ?_, by simp only [VRel]; exact ⟨rfl, rfl⟩⟩
        simp [-bind_pure_comp, Instr.index, asIntOf, run_underlying hu, h0, h2, hb]
      · cases ho
    · cases ho
  · cases ho

end Go.AM
