/- All operations that call nothing, joined. Conditions: none. -/
import Derived.Test.YtobdjegooonklaaGreatAmOps5
set_option linter.unusedVariables false
set_option linter.unusedSimpArgs false
namespace Go.AM
open Go

variable {F : Fz} {m : Mp} {fr : FR} {a : Act} {h : Heap} {w : World} {P : Program}

theorem evO_rel (hf : FRel F m fr a.tmps) {x : Option Operand} {y : Option AV} (hy : opE.evO fr x = some y) : ORel F m y (x.map a.eval) := by
  cases x with
  | none => simp [opE.evO] at hy; subst hy; simp [ORel]
  | some x =>
    simp only [opE.evO] at hy
    cases he : ev fr x with
    | none => simp [he] at hy
    | some z =>
      simp only [he, Option.some.injEq] at hy
      subst hy
      simp only [ORel, Option.map_some]
      exact ev_rel hf he

theorem map_toArray {α β : Type} (f : α → β) (x : Array α) (l : List β) (h : l = x.toList.map f) : l.toArray = x.map f := by subst h; apply Array.toList_inj.1; simp

set_option maxHeartbeats 1000000 in
theorem opE_sound {E : Env} (hE : E.ZerosOK) (r : Rel F m h w) (hf : FRel F m fr a.tmps) {f : FuncId} {o : Oper} {y : AV} {h' : Heap} {s : Option (Nat × Bool)} (ho : opE E f fr h o = some (y, h', s)) :
    Good E.P F m w y h' (execOp a.eval o) := by
  unfold execOp
  unfold opE at ho
  split at ho
  · -- move
    rename_i x hop
    try dsimp only at ho
    obtain ⟨h1, rfl, rfl⟩ := one_eq ho
    exact ⟨_, .value (a.eval x), w, F, m, by simp [hop], .inl rfl, Ext.refl _ _, ev_rel hf h1, r, Same.refl _⟩
  · -- assign
    rename_i x hop
    try dsimp only at ho
    obtain ⟨h1, rfl, rfl⟩ := one_eq ho
    exact ⟨_, .value (a.eval x), w, F, m, by simp [hop], .inl rfl, Ext.refl _ _, ev_rel hf h1, r, Same.refl _⟩
  · -- pick
    rename_i c p q hop
    try dsimp only at ho
    split at ho
    · rename_i hc
      have hcv := ev_rel hf hc
      simp only [VRel] at hcv
      obtain ⟨h1, rfl, rfl⟩ := one_eq ho
      exact ⟨_, .value (a.eval p), w, F, m, by simp [hop, hcv.2, asBool], .inl rfl, Ext.refl _ _, ev_rel hf h1, r, Same.refl _⟩
    · rename_i hc
      have hcv := ev_rel hf hc
      simp only [VRel] at hcv
      obtain ⟨h1, rfl, rfl⟩ := one_eq ho
      exact ⟨_, .value (a.eval q), w, F, m, by simp [hop, hcv.2, asBool], .inl rfl, Ext.refl _ _, ev_rel hf h1, r, Same.refl _⟩
    · cases ho
  · -- alloc
    rename_i t hop
    try dsimp only at ho
    split at ho
    · rename_i z hz
      cases hb : Nat.ble 1 (leafs z) with
      | false => simp [hb] at ho
      | true =>
        simp only [hb, cond_true, Option.some.injEq, Prod.mk.injEq] at ho
        obtain ⟨rfl, rfl, rfl⟩ := ho
        obtain ⟨v, v1, v2, v3, v4⟩ := zero_run (F := F) (m := m) hE hz w
        obtain ⟨m', g1, g2, g3, g4⟩ := newVar_good (P := E.P) r v2 v3 (Nat.le_of_ble_eq_true hb) t
        have : (Instr.alloc t true (.tuple #[])).run E.P w = .ok (.pointer (some ⟨w.heap.size, 0, none⟩)) (w.alloc (.cells v.cells t)) := by
          simp [-bind_pure_comp, Instr.alloc, v1, g1]
        rw [hop]
        dsimp only
        exact Good.new this g2 g3 g4 (same_alloc _ _)
    · cases ho
  · -- box
    rename_i t x hop
    try dsimp only at ho
    split at ho
    · rename_i y0 hx
      cases hb : (Nat.ble 1 (leafs y0) && !isTupA y0) with
      | false => simp [hb] at ho
      | true =>
        simp only [hb, cond_true, Option.some.injEq, Prod.mk.injEq] at ho
        obtain ⟨rfl, rfl, rfl⟩ := ho
        rw [Bool.and_eq_true] at hb
        have v2 := ev_rel hf hx
        obtain ⟨m', g1, g2, g3, g4⟩ := newVar_good (P := E.P) r v2 (notTup_of v2 (by simpa using hb.2)) (Nat.le_of_ble_eq_true hb.1) t
        have : (Instr.box t (a.eval x)).run E.P w = .ok (.pointer (some ⟨w.heap.size, 0, none⟩)) (w.alloc (.cells (a.eval x).cells t)) := by
          simp [-bind_pure_comp, Instr.box, g1]
        rw [hop]
        dsimp only
        exact Good.new this g2 g3 g4 (same_alloc _ _)
    · cases ho
  · -- build
    rename_i t ps hop
    try dsimp only at ho
    split at ho
    · rename_i qs hq
      obtain ⟨h1, rfl, rfl⟩ := one_eq ho
      have hp : PL F m qs (ps.map fun q => (q.1, a.eval q.2)).toList := by simpa using evP_rel hf hq
      obtain ⟨v, v1, v2⟩ := build_run hE h1 hp w
      rw [hop]
      dsimp only
      exact Good.val r v1 v2
    · cases ho
  · -- buildSlice
    rename_i t len ps hop
    try dsimp only at ho
    split at ho
    · rename_i qs e hq hu
      split at ho
      · rename_i k hk
        have hp : PL F m qs (ps.map fun q => (q.1, a.eval q.2)).toList := by simpa using evP_rel hf hq
        split at ho
        · rename_i zs hz
          split at ho
          · rename_i l hl
            cases hb : (Nat.ble (len * k) 16777216 && Nat.ble 1 k) with
            | false => simp [hb] at ho
            | true =>
              simp only [hb, cond_true] at ho
              obtain ⟨cs, c1, c2, c3, c4, c5, c6⟩ := buildSlice_run hE r hu hk hz hl hb hp
              have hcl := len_of_CL c2 c3
              rw [c4] at hcl
              rw [hop]
              dsimp only
              cases hr : E.rows f with
              | true =>
                simp only [hr, cond_true, Option.some.injEq, Prod.mk.injEq] at ho
                obtain ⟨rfl, rfl, rfl⟩ := ho
                have hlen : len ≤ len * k := Nat.le_mul_of_pos_right _ (by omega)
                obtain ⟨r', e'⟩ := r.newRow (k := k) (C := len) (els := l) (ex := ⟨true, e⟩) (cells := cs.toArray) (by omega) (by simpa using hcl) (by omega) (fun _ => c4) (by simp only [maxLen]; omega) c3
                  (by rw [c4, List.take_of_length_le (by simp; omega)]; simpa using c2)
                refine Good.new c1 e' ?_ r' (same_alloc _ _)
                simp only [VRel]
                exact ⟨w.heap.size, len, k, ⟨w.heap.size, 0, none⟩, Mp.add_same, by omega, rfl, rfl, by simp, by simp⟩
              | false =>
                simp only [hr, cond_false, Option.some.injEq, Prod.mk.injEq] at ho
                obtain ⟨rfl, rfl, rfl⟩ := ho
                obtain ⟨r', e'⟩ := r.frozenBlock (.cells cs.toArray e)
                refine ⟨.slice (some ⟨w.heap.size, 0, none⟩) len len, .value (.slice (some ⟨w.heap.size, 0, none⟩) len len), _, _, m, by simp [c1], .inl rfl, e', ?_, r', same_alloc _ _⟩
                simp only [VRel]
                refine ⟨⟨w.heap.size, 0, none⟩, len, cs, c2.mono e', c3, fun j v hj => ⟨cs.toArray, e, (0, 0), by simp [Fz.add], by simpa using hj⟩, rfl, by omega, fun _ => by omega, by rw [c4]⟩
          · cases ho
        · cases ho
      · cases ho
    · cases ho
  · -- load
    rename_i t x hop
    try dsimp only at ho
    split at ho
    · rename_i p hp
      obtain ⟨h1, rfl, rfl⟩ := one_eq ho
      obtain ⟨ad, v, v1, v2, v3, v4⟩ := loadE_run (P := E.P) r (ev_rel hf hp) h1
      rw [hop]
      dsimp only
      exact Good.val r (by simp [-bind_pure_comp, Instr.loadAt, Instr.sureAddr, v1, v2]) v3
    · cases ho
  · -- store
    rename_i t x z hop
    try dsimp only at ho
    split at ho
    · rename_i p y0 hp hz
      split at ho
      · rename_i h1 id hs
        simp only [Option.some.injEq, Prod.mk.injEq] at ho
        obtain ⟨rfl, rfl, rfl⟩ := ho
        obtain ⟨ad, w', v1, v2, v3, v4⟩ := storeE_run (P := E.P) r (ev_rel hf hp) (ev_rel hf hz) hs
        rw [hop]
        dsimp only
        exact ⟨undef, .skip, w', F, m, by simp [-bind_pure_comp, Instr.storeAt, Instr.sureAddr, v1, v2], .inr ⟨rfl, rfl⟩, Ext.refl _ _, by simp [VRel, VL, undef], v3, v4⟩
      · cases ho
    · cases ho
  · -- nilCheck
    rename_i x hop
    try dsimp only at ho
    rw [hop]
    dsimp only
    split at ho
    · rename_i hx
      simp only [Option.some.injEq, Prod.mk.injEq] at ho
      obtain ⟨rfl, rfl, rfl⟩ := ho
      have hv := ev_rel hf hx
      have hv' := hv
      simp only [VRel] at hv'
      obtain ⟨g, C, k, _, e⟩ := hv'
      exact ⟨a.eval x, .value (a.eval x), w, F, m, by rw [e]; simp, .inl rfl, Ext.refl _ _, hv, r, Same.refl _⟩
    · rename_i hx
      simp only [Option.some.injEq, Prod.mk.injEq] at ho
      obtain ⟨rfl, rfl, rfl⟩ := ho
      have hv := ev_rel hf hx
      have hv' := hv
      simp only [VRel] at hv'
      obtain ⟨ad, z, _, _, _, _, e⟩ := hv'
      exact ⟨a.eval x, .value (a.eval x), w, F, m, by rw [e]; simp, .inl rfl, Ext.refl _ _, hv, r, Same.refl _⟩
    · rename_i hx
      simp only [Option.some.injEq, Prod.mk.injEq] at ho
      obtain ⟨rfl, rfl, rfl⟩ := ho
      have hv := ev_rel hf hx
      have hv' := hv
      simp only [VRel] at hv'
      obtain ⟨xs, ys, _, _, e⟩ := hv'
      exact ⟨a.eval x, .value (a.eval x), w, F, m, by rw [e]; simp, .inl rfl, Ext.refl _ _, hv, r, Same.refl _⟩
    · cases ho
  · -- binOp
    rename_i op t x z yt hop
    try dsimp only at ho
    split at ho
    · rename_i ax az hx hz
      obtain ⟨h1, rfl, rfl⟩ := one_eq ho
      have vx := ev_rel hf hx
      have vz := ev_rel hf hz
      rw [hop]
      dsimp only
      unfold binE at h1
      split at h1
      · rename_i vx' vz' tx tz
        obtain ⟨v, v1, v2, v3, v4⟩ := pure1_rel (F := F) (m := m) h1
        rw [toV_rel ax vx' tx _ vx, toV_rel az vz' tz _ vz]
        exact Good.val r (prun_run _ _ v1 w) v3
      · split at h1
        · rename_i d hd
          split at h1
          · rename_i b hb
            injection h1 with h1
            subst h1
            obtain ⟨n1, n2, n3, n4⟩ := nilEq_run (P := E.P) hd hb vx vz x z w
            exact Good.val r (v := .bool b) (by simp [-bind_pure_comp, n1, n3]) (by simp [VRel, free])
          · cases hb : ptrSame E.P d ax az with
            | false => simp [hb] at h1
            | true =>
              simp only [hb, cond_true, Option.some.injEq] at h1
              subst h1
              obtain ⟨n1, n2, n3, n4⟩ := ptrSame_run (P := E.P) hd hb vx vz x z w
              exact Good.val r (v := .bool true) (by simp [-bind_pure_comp, n1, n3]) (by simp [VRel, free])
        · rename_i d hd
          split at h1
          · rename_i b hb
            injection h1 with h1
            subst h1
            obtain ⟨n1, n2, n3, n4⟩ := nilEq_run (P := E.P) hd hb vx vz x z w
            exact Good.val r (v := .bool !b) (by simp [-bind_pure_comp, n2, n4]) (by simp [VRel, free])
          · cases hb : ptrSame E.P d ax az with
            | false => simp [hb] at h1
            | true =>
              simp only [hb, cond_true, Option.some.injEq] at h1
              subst h1
              obtain ⟨n1, n2, n3, n4⟩ := ptrSame_run (P := E.P) hd hb vx vz x z w
              exact Good.val r (v := .bool false) (by simp [-bind_pure_comp, n2, n4]) (by simp [VRel, free])
        · cases h1
    · cases ho
  · -- unOp
    rename_i op t x hop
    try dsimp only at ho
    rw [hop]
    dsimp only
    split at ho
    · rename_i ax hx
      split at ho
      · rename_i vx' tx
        obtain ⟨h1, rfl, rfl⟩ := one_eq ho
        obtain ⟨v, v1, v2, v3, v4⟩ := pure1_rel (F := F) (m := m) h1
        rw [toV_rel ax vx' tx _ (ev_rel hf hx)]
        exact Good.val r (prun_run _ _ v1 w) v3
      · cases ho
    · cases ho
  · -- convert
    rename_i s0 t x hop
    try dsimp only at ho
    rw [hop]
    dsimp only
    split at ho
    · rename_i ax hx
      have vx := ev_rel hf hx
      split at ho
      · rename_i e b h1 h2
        split at ho
        · rename_i h3
          simp only [Option.some.injEq, Prod.mk.injEq] at ho
          obtain ⟨rfl, rfl, rfl⟩ := ho
          simp only [VRel] at vx
          rw [vx.2]
          obtain ⟨v, w', F', c1, c2, c3, c4, c5⟩ := toBytes_run (P := E.P) r (b := b) h1 h2 h3
          exact ⟨v, .value v, w', F', m, by simp [c1], .inl rfl, c2, c3, c4, c5⟩
        · cases ho
      · rename_i a2 e h1 h2
        split at ho
        · rename_i h3
          split at ho
          · rename_i b hb
            simp only [Option.some.injEq, Prod.mk.injEq] at ho
            obtain ⟨rfl, rfl, rfl⟩ := ho
            exact Good.val r (toString_run (P := E.P) r h1 h2 h3 hb vx) (by simp [VRel, free])
          · cases ho
        · cases ho
      · split at ho
        · rename_i vx' tx
          obtain ⟨h1, rfl, rfl⟩ := one_eq ho
          obtain ⟨v, v1, v2, v3, v4⟩ := pure1_rel (F := F) (m := m) h1
          rw [toV_rel _ vx' tx _ vx]
          exact Good.val r (prun_run _ _ v1 w) v3
        · obtain ⟨h1, rfl, rfl⟩ := one_eq ho
          obtain ⟨c1, c2⟩ := convPtr_run r h1 vx
          exact Good.val r c1 c2
    · cases ho
  · -- makeFunc
    rename_i g p q hop
    try dsimp only at ho
    rw [hop]
    dsimp only
    split at ho
    · rename_i x z hx hz
      simp only [Option.some.injEq, Prod.mk.injEq] at ho
      obtain ⟨rfl, rfl, rfl⟩ := ho
      refine Good.val r (v := .func g (p.map a.eval) (q.map a.eval)) (by simp [Instr.makeFunc]) ?_
      simp only [VRel]
      exact ⟨_, _, evL_rel hf hx, evL_rel hf hz, by rw [map_toArray a.eval p _ rfl, map_toArray a.eval q _ rfl]⟩
    · cases ho
  · -- makeSlice
    rename_i t l c hop
    try dsimp only at ho
    rw [hop]
    dsimp only
    split at ho
    · rename_i e kn n kc mm hu hl hc
      split at ho
      · rename_i z hz
        cases hb : (Nat.beq ((szOf E.P e).getD 0) (leafs z) && decide (n = mm) && decide (0 ≤ n) && decide (n * ((E.P.info? e).map (·.bytes)).getD 0 ≤ 140737488355328) && Nat.ble 1 (leafs z) && decide (n ≤ 140737488355328)) with
        | false => simp only [hb, cond_false] at ho; cases ho
        | true =>
          simp only [hb, cond_true, Option.some.injEq, Prod.mk.injEq] at ho
          obtain ⟨rfl, rfl, rfl⟩ := ho
          simp only [Bool.and_eq_true, decide_eq_true_eq] at hb
          obtain ⟨⟨⟨⟨⟨b1, b2⟩, b3⟩, b4⟩, b5⟩, b6⟩ := hb
          subst b2
          have hlz : 1 ≤ leafs z := Nat.le_of_ble_eq_true b5
          have hsz : szOf E.P e = some (leafs z) := by
            have e1 : (szOf E.P e).getD 0 = leafs z := Nat.eq_of_beq_eq_true b1
            cases hq : szOf E.P e with
            | none => rw [hq] at e1; simp at e1; omega
            | some q => rw [hq] at e1; simp at e1; rw [e1]
          have vl := ev_rel hf hl
          have vc := ev_rel hf hc
          simp only [VRel] at vl vc
          rw [vl.2, vc.2]
          obtain ⟨cs, c1, c2⟩ := makeSlice_run (E := E) hE r (kn := kn) (kc := kc) hu hz b3 b4 hlz b6 hsz
          have hk := allK_replicate (n := n.toNat) (x := z) rfl
          have hcl := len_of_CL c2 hk
          simp only [List.length_replicate] at hcl
          obtain ⟨r', e'⟩ := r.newRow (k := leafs z) (C := n.toNat) (els := List.replicate n.toNat z) (ex := ⟨true, e⟩) (cells := cs.toArray) (by omega) (by simpa using hcl) (by simp) (by simp) (by simp only [maxLen]; omega) hk
            (by rw [List.length_replicate, List.take_of_length_le (by simp; omega)]; simpa using c2)
          refine Good.new c1 e' ?_ r' (same_alloc _ _)
          simp only [VRel]
          exact ⟨w.heap.size, n.toNat, leafs z, ⟨w.heap.size, 0, none⟩, Mp.add_same, by omega, rfl, rfl, by simp, by simp⟩
      · cases ho
    · cases ho
  · -- makeMap
    rename_i t hop
    try dsimp only at ho
    rw [hop]
    dsimp only
    split at ho
    · rename_i kt e hu
      simp only [Option.some.injEq, Prod.mk.injEq] at ho
      obtain ⟨rfl, rfl, rfl⟩ := ho
      obtain ⟨r', e'⟩ := r.newMap
      refine Good.new (v := .map (some w.heap.size)) (by simp [-bind_pure_comp, Instr.makeMap]) e' ?_ r' (same_alloc _ _)
      simp only [VRel]
      exact ⟨w.heap.size, by simp [Mp.addM], rfl⟩
    · cases ho
  · -- slice
    rename_i t x lo hi mx hop
    try dsimp only at ho
    rw [hop]
    dsimp only
    split at ho
    · rename_i ax l0 h0 m0 hx h1 h2 h3
      obtain ⟨g1, rfl, rfl⟩ := one_eq ho
      obtain ⟨v, v1, v2⟩ := sliceE_run (P := E.P) r (ev_rel hf hx) (evO_rel hf h1) (evO_rel hf h2) (evO_rel hf h3) g1
      exact Good.val r v1 v2
    · cases ho
  · -- fieldAddr
    rename_i t x g hop
    try dsimp only at ho
    rw [hop]
    dsimp only
    split at ho
    · rename_i ax hx
      obtain ⟨g1, rfl, rfl⟩ := one_eq ho
      obtain ⟨v, v1, v2⟩ := fieldAddr_run (P := E.P) (w := w) (ev_rel hf hx) g1
      exact Good.val r v1 v2
    · cases ho
  · -- field
    rename_i t x g hop
    try dsimp only at ho
    rw [hop]
    dsimp only
    split at ho
    · rename_i ax hx
      obtain ⟨g1, rfl, rfl⟩ := one_eq ho
      obtain ⟨v, v1, v2⟩ := field_run (P := E.P) (w := w) (ev_rel hf hx) g1
      exact Good.val r v1 v2
    · cases ho
  · -- indexAddr
    rename_i t x i hop
    try dsimp only at ho
    rw [hop]
    dsimp only
    split at ho
    · rename_i ax ai hx hi
      obtain ⟨g1, rfl, rfl⟩ := one_eq ho
      obtain ⟨v, v1, v2⟩ := indexAddr_run (P := E.P) r (ev_rel hf hx) (ev_rel hf hi) g1
      exact Good.val r v1 v2
    · cases ho
  · -- index
    rename_i t x i hop
    try dsimp only at ho
    rw [hop]
    dsimp only
    split at ho
    · rename_i ax ai hx hi
      obtain ⟨g1, rfl, rfl⟩ := one_eq ho
      obtain ⟨v, v1, v2⟩ := index_run (P := E.P) (w := w) (ev_rel hf hx) (ev_rel hf hi) g1
      exact Good.val r v1 v2
    · cases ho
  · -- extract
    rename_i x i hop
    try dsimp only at ho
    rw [hop]
    dsimp only
    split at ho
    · rename_i l hx
      obtain ⟨g1, rfl, rfl⟩ := one_eq ho
      have hv := ev_rel hf hx
      simp only [VRel] at hv
      obtain ⟨ys, y1, y2⟩ := hv
      have key : ∀ (l : List AV) (ys : List Value) (i : Nat) (y : AV), VL F m l ys → l[i]? = some y → ∃ v, ys[i]? = some v ∧ VRel F m y v := by
        intro l
        induction l with
        | nil => intro ys i y _ hi; simp at hi
        | cons z l ih =>
          intro ys i y hl hi
          simp only [VL] at hl
          obtain ⟨v, ds, a1, a2, rfl⟩ := hl
          cases i with
          | zero => simp at hi; subst hi; exact ⟨v, by simp, a1⟩
          | succ i => simp at hi; obtain ⟨v', b1, b2⟩ := ih ds i y a2 hi; exact ⟨v', by simpa using b1, b2⟩
      obtain ⟨v, v1, v2⟩ := key l ys i y y1 g1
      refine Good.val r (v := v) ?_ v2
      rw [y2]
      simp [Instr.extract, v1]
    · cases ho
  · cases ho

end Go.AM
