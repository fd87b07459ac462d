/- A merged row folded comes to what its two rows come to. Conditions: none. -/
import Derived.Test.YtobdjegooonklaaGreatAmLook
import Derived.Test.YtobdjegooonklaaGreatAmMerge3
import Derived.Test.YtobdjegooonklaaGreatAmFoldB
set_option linter.unusedSimpArgs false
set_option linter.unusedVariables false
namespace Go.Proofs.YtobdjegooonklaaGreat
open Go Go.AM

theorem look_setP {p q : Pre} {e : Ef} : ∀ L : Eff3, lookP (setP L p e) q = if q = p then some e else lookP L q
  | [] => by by_cases h : q = p <;> simp [setP, lookP, h]
  | (a, d) :: L => by
    by_cases hpa : p = a
    · subst hpa
      by_cases h : q = p <;> simp [setP, lookP, h]
    · by_cases h : q = p
      · subst h
        simp [setP, lookP, hpa, look_setP L]
      · simp only [setP, if_neg hpa, lookP, look_setP L, if_neg h]
theorem may_three {i : Inc} (h : may i = true) (h3 : i.kind = 3) : i.r = bare i.r.to ∧ right i.r.to = true := by
  unfold may at h
  have h12 : ¬ (i.kind = 1 ∨ i.kind = 2) := by omega
  simp only [if_neg h12, if_pos h3, Bool.and_eq_true, decide_eq_true_eq] at h
  exact ⟨h.2, h.1⟩
theorem may_add {i : Inc} (h : may i = true) (h3 : i.kind ≠ 3) : rightR i.r = true ∧ (i.kind = 1 ∨ i.kind = 2) := by
  unfold may at h
  by_cases h12 : i.kind = 1 ∨ i.kind = 2
  · simp only [if_pos h12] at h; exact ⟨h, h12⟩
  · simp only [if_neg h12, if_neg h3] at h; cases h
def isV (o : Option Ef) : Option Route := match o with
  | some e => if e.is = true then some e.r else none
  | none => none
theorem lookP_mem {p : Pre} : ∀ {L : Eff3}, lookP L p ≠ none ↔ p ∈ L.map (·.1)
  | [] => by simp [lookP]
  | (q, e) :: L => by
    have ih := lookP_mem (p := p) (L := L)
    by_cases h : p = q
    · simp [lookP, h]
    · simp only [lookP, if_neg h, List.map_cons, List.mem_cons, ih]
      constructor
      · exact .inr
      · rintro (h' | h')
        · exact (h h').elim
        · exact h'
theorem mrgV_slv (h : Heap) : ∀ o : Option (List Inc), SlV h 21 (mrgV o) ((o.getD []).map Inc.av)
  | none => .inl ⟨rfl, rfl⟩
  | some [] => .inl ⟨rfl, rfl⟩
  | some (i :: l) => .inr (.inl ⟨false, rfl⟩)
theorem mrgV_len (o : Option (List Inc)) : sliceLen (mrgV o) = some (o.getD []).length := by
  have := (mrgV_slv [] o).len
  simpa using this
theorem emits_ok {L : Eff3} (w : Wm L) : ∀ (ks : List Pre), ∀ i ∈ emits L ks, i.ok
  | [], i, hi => by simp [emits] at hi
  | p :: ks, i, hi => by
    have e1 : emits L (p :: ks) = emit ((lookP L p).getD zEf) ++ emits L ks := rfl
    rw [e1] at hi
    rcases List.mem_append.1 hi with hi | hi
    · have hro : ((lookP L p).getD zEf).r.ok := by
        cases h : lookP L p with
        | none => exact zRoute_ok
        | some e => exact look_ok w.ok h
      have hk : ∀ c : Int, (c = 1 ∨ c = 2 ∨ c = 3) → Inc.ok ⟨c, ((lookP L p).getD zEf).r⟩ := fun c hc => ⟨by unfold i64; rcases hc with rfl | rfl | rfl <;> simp, hro⟩
      unfold emit at hi
      split at hi <;> split at hi
      · rw [List.mem_singleton.1 hi]; exact hk 2 (by simp)
      · rw [List.mem_singleton.1 hi]; exact hk 3 (by simp)
      · rw [List.mem_singleton.1 hi]; exact hk 1 (by simp)
      · cases hi
    · exact emits_ok w ks i hi
theorem mfold_wm : ∀ (A : List Inc) (L L' : Eff3), (∀ i ∈ A, i.ok) → Wm L → mfold L A = some L' → Wm L' ∧ L'.length ≤ L.length + A.length
  | [], L, L', _, w, h => by simp only [mfold, Option.some.injEq] at h; subst h; exact ⟨w, by simp⟩
  | i :: A, L, L', hA, w, h => by
    simp only [mfold] at h
    split at h
    · rename_i L1 h1
      obtain ⟨w1, l1⟩ := w.step (hA i (List.mem_cons_self ..)) h1
      obtain ⟨w2, l2⟩ := mfold_wm A L1 L' (fun j hj => hA j (List.mem_cons_of_mem _ hj)) w1 h
      exact ⟨w2, by simp only [List.length_cons]; omega⟩
    · cases h
theorem mergeP_ok {A B : List Inc} (hA : ∀ i ∈ A, i.ok) (hB : ∀ i ∈ B, i.ok) : (∀ i ∈ (mergeP A B).getD [], i.ok) ∧ ((mergeP A B).getD []).length ≤ A.length + B.length := by
  have hAB : ∀ i ∈ A ++ B, i.ok := fun i hi => by
    rcases List.mem_append.1 hi with hi | hi
    · exact hA i hi
    · exact hB i hi
  unfold mergeP
  split
  · simp
  · cases h : mfold [] (A ++ B) with
    | none => simp
    | some L =>
      obtain ⟨w, hl⟩ := mfold_wm (A ++ B) [] L hAB Wm.nil h
      have h1 := emits_len L (skeys L)
      have h2 := skeys_len fun q hq => (w.ok q hq).1
      simp only [List.length_append, List.length_nil] at hl
      exact ⟨by simpa using emits_ok w (skeys L), by simp; omega⟩

/-- What a map of effects has to do with the table at the beginning and now. -/
structure Fol (T0 T : List Route) (L : Eff3) : Prop where
  w : Wm L
  keep : ∀ p : Pre, p.ok → lookP L p = none → lookR T p = lookR T0 p
  was : ∀ (p : Pre) e, p.ok → lookP L p = some e → e.was = (lookR T0 p).isSome
  is : ∀ (p : Pre) e, p.ok → lookP L p = some e → lookR T p = if e.is = true then some e.r else none
  good : ∀ p e, lookP L p = some e → e.r.to = p ∧ (e.is = true → rightR e.r = true) ∧ (e.is = false → e.r = bare p ∧ right p = true)

theorem Fol.next {T0 T : List Route} {L : Eff3} (F : Fol T0 T L) {i : Inc} (hi : i.ok) (hm : may i = true) {T' : List Route} (hT : ∀ p : Pre, p.ok → lookR T' p = if p = i.r.to then after i else lookR T p) {w0 : Bool} (hw : w0 = (lookR T0 i.r.to).isSome) : Fol T0 T' (setP L i.r.to (efOf w0 i)) := by
  refine ⟨F.w.set hi.2.1 hi.2, fun p hp h => ?_, fun p e hp h => ?_, fun p e hp h => ?_, fun p e h => ?_⟩
  · rw [look_setP] at h
    by_cases hpi : p = i.r.to
    · rw [if_pos hpi] at h; cases h
    · rw [if_neg hpi] at h
      rw [hT p hp, if_neg hpi]
      exact F.keep p hp h
  · rw [look_setP] at h
    by_cases hpi : p = i.r.to
    · rw [if_pos hpi] at h
      injection h with h
      subst h
      rw [hpi]
      exact hw
    · rw [if_neg hpi] at h
      exact F.was p e hp h
  · rw [look_setP] at h
    rw [hT p hp]
    by_cases hpi : p = i.r.to
    · rw [if_pos hpi] at h ⊢
      injection h with h
      subst h
      unfold after efOf
      by_cases h3 : i.kind = 3 <;> simp [h3]
    · rw [if_neg hpi] at h ⊢
      exact F.is p e hp h
  · rw [look_setP] at h
    by_cases hpi : p = i.r.to
    · rw [if_pos hpi] at h
      injection h with h
      subst h
      refine ⟨hpi.symm, fun hs => ?_, fun hs => ?_⟩
      · have h3 : i.kind ≠ 3 := by simpa [efOf] using hs
        exact (may_add hm h3).1
      · have h3 : i.kind = 3 := by simpa [efOf] using hs
        rw [hpi]
        exact may_three hm h3
    · rw [if_neg hpi] at h
      exact F.good p e h

theorem Fol.step {T0 T : List Route} {L : Eff3} (F : Fol T0 T L) (hT : TabL T) {i : Inc} (hi : i.ok) (h : (doT T i).2 = 0) : may i = true ∧ ∃ L', mstep L i = some L' ∧ Fol T0 (doT T i).1 L' := by
  obtain ⟨hm, h1, h2, h3, _⟩ := doT_did hT hi h
  refine ⟨hm, ?_⟩
  have hp := hi.2.1
  cases hL : lookP L i.r.to with
  | none =>
    refine ⟨setP L i.r.to (efOf (!(i.kind == 1)) i), by simp only [mstep, hL], F.next hi hm h3 ?_⟩
    have hk := F.keep _ hp hL
    by_cases hk1 : i.kind = 1
    · rw [← hk, h1 hk1]; simp [hk1]
    · obtain ⟨r, hr⟩ := h2 hk1
      rw [← hk, hr]; simp [hk1]
  | some e =>
    have hs := F.is _ e hp hL
    have hne : ¬ e.is = (i.kind == 1) := by
      by_cases hk1 : i.kind = 1
      · rw [h1 hk1] at hs
        intro he
        have : e.is = true := by rw [he]; simp [hk1]
        rw [if_pos this] at hs
        cases hs
      · obtain ⟨r, hr⟩ := h2 hk1
        rw [hr] at hs
        intro he
        have : ¬ e.is = true := by rw [he]; simp [hk1]
        rw [if_neg this] at hs
        cases hs
    exact ⟨setP L i.r.to (efOf e.was i), by simp only [mstep, hL, if_neg hne], F.next hi hm h3 (F.was _ e hp hL)⟩

theorem Fol.fold {T0 : List Route} : ∀ (A : List Inc) (T : List Route) (L : Eff3) (k : Nat), (∀ i ∈ A, i.ok) → TabL T → Fol T0 T L → (foldT T A k).2.2 = 0 → ∃ L', mfold L A = some L' ∧ Fol T0 (foldT T A k).1 L' ∧ TabL (foldT T A k).1 ∧ wrongs A = false ∧ L'.length ≤ L.length + A.length
  | [], T, L, k, _, hT, F, _ => ⟨L, rfl, F, hT, rfl, by simp⟩
  | i :: A, T, L, k, hA, hT, F, h => by
    have hi := hA i (List.mem_cons_self ..)
    simp only [foldT] at h ⊢
    by_cases hz : (doT T i).2 = 0
    · rw [if_pos hz] at h ⊢
      obtain ⟨hm, L1, q1, F1⟩ := F.step hT hi hz
      obtain ⟨L2, q2, F2, T2, w2, l2⟩ := Fol.fold A _ L1 (k + 1) (fun j hj => hA j (List.mem_cons_of_mem _ hj)) (doT_tab hT hi) F1 h
      have l1 := (F.w.step hi q1).2
      exact ⟨L2, by simp only [mfold, q1, q2], F2, T2, by unfold wrongs at w2 ⊢; rw [List.any_cons, hm, w2]; rfl, by simp only [List.length_cons]; omega⟩
    · rw [if_neg hz] at h
      exact (hz h).elim

theorem mfold_append : ∀ (A B : List Inc) (L : Eff3), mfold L (A ++ B) = match mfold L A with
    | some L' => mfold L' B
    | none => none
  | [], B, L => rfl
  | i :: A, B, L => by
    simp only [List.cons_append, mfold]
    cases mstep L i with
    | none => rfl
    | some L1 => exact mfold_append A B L1

theorem Fol.emits {T0 Tv : List Route} {L : Eff3} (F : Fol T0 Tv L) : ∀ (ks : List Pre) (T : List Route) (k : Nat), ks.Nodup → (∀ p ∈ ks, p.ok ∧ lookP L p ≠ none) → TabL T → (∀ p ∈ ks, lookR T p = lookR T0 p) → T.length + ks.length ≤ 299 →
    (foldT T (emits L ks) k).2.2 = 0 ∧ (foldT T (emits L ks) k).2.1 = k + (emits L ks).length ∧ TabL (foldT T (emits L ks) k).1 ∧ ∀ p : Pre, p.ok → lookR (foldT T (emits L ks) k).1 p = if p ∈ ks then isV (lookP L p) else lookR T p
  | [], T, k, _, _, hT, _, _ => ⟨rfl, rfl, hT, fun p hp => by rw [if_neg (by simp)]; rfl⟩
  | p :: ks, T, k, hn, hk, hT, hsame, hlen => by
    obtain ⟨hn1, hn2⟩ := List.nodup_cons.1 hn
    obtain ⟨hp, hex⟩ := hk p (List.mem_cons_self ..)
    have hk2 : ∀ q ∈ ks, q.ok ∧ lookP L q ≠ none := fun q hq => hk q (List.mem_cons_of_mem _ hq)
    obtain ⟨e, he⟩ := Option.ne_none_iff_exists'.1 hex
    have hw := F.was p e hp he
    obtain ⟨g1, g2, g3⟩ := F.good p e he
    have hs := hsame p (List.mem_cons_self ..)
    have hro := look_ok F.w.ok he
    simp only [List.length_cons] at hlen
    have e1 : Proofs.YtobdjegooonklaaGreat.emits L (p :: ks) = emit e ++ Proofs.YtobdjegooonklaaGreat.emits L ks := by
      show emit ((lookP L p).getD zEf) ++ _ = _
      rw [he]; rfl
    rw [e1]
    -- one change
    have one : ∀ c : Int, emit e = [⟨c, e.r⟩] → (c = 1 ∨ c = 2 ∨ c = 3) → may ⟨c, e.r⟩ = true → (c = 1 ↔ e.was = false) → isV (some e) = after ⟨c, e.r⟩ →
        (foldT T (emit e ++ Proofs.YtobdjegooonklaaGreat.emits L ks) k).2.2 = 0 ∧ (foldT T (emit e ++ Proofs.YtobdjegooonklaaGreat.emits L ks) k).2.1 = k + (emit e ++ Proofs.YtobdjegooonklaaGreat.emits L ks).length ∧ TabL (foldT T (emit e ++ Proofs.YtobdjegooonklaaGreat.emits L ks) k).1 ∧ ∀ q : Pre, q.ok → lookR (foldT T (emit e ++ Proofs.YtobdjegooonklaaGreat.emits L ks) k).1 q = if q ∈ p :: ks then isV (lookP L q) else lookR T q := fun c hem hc hm hcw hv => by
      have hio : Inc.ok ⟨c, e.r⟩ := ⟨by unfold i64; rcases hc with rfl | rfl | rfl <;> simp, hro⟩
      have hto : (⟨c, e.r⟩ : Inc).r.to = p := g1
      have hcan : (doT T ⟨c, e.r⟩).2 = 0 := by
        refine doT_can hT hio hm (fun h => ⟨?_, by omega⟩) fun h => ?_
        · have h1 : c = 1 := h
          rw [hcw.1 h1] at hw
          rw [hto, hs]
          cases hq : lookR T0 p with
          | none => rfl
          | some r => rw [hq] at hw; cases hw
        · have h1 : ¬ c = 1 := h
          have : e.was = true := by
            cases hb : e.was with
            | true => rfl
            | false => exact (h1 (hcw.2 hb)).elim
          rw [this] at hw
          rw [hto, hs]
          exact Option.isSome_iff_exists.1 hw.symm
      obtain ⟨_, _, _, hlook, hl1⟩ := doT_did hT hio hcan
      rw [hto] at hlook
      have hsame2 : ∀ q ∈ ks, lookR (doT T ⟨c, e.r⟩).1 q = lookR T0 q := fun q hq => by
        have hqp : ¬ q = p := fun h => hn1 (h ▸ hq)
        rw [hlook q (hk2 q hq).1, if_neg hqp]
        exact hsame q (List.mem_cons_of_mem _ hq)
      obtain ⟨r1, r2, r3, r4⟩ := Fol.emits F ks (doT T ⟨c, e.r⟩).1 (k + 1) hn2 hk2 (doT_tab hT hio) hsame2 (by omega)
      have ef : foldT T (emit e ++ Proofs.YtobdjegooonklaaGreat.emits L ks) k = foldT (doT T ⟨c, e.r⟩).1 (Proofs.YtobdjegooonklaaGreat.emits L ks) (k + 1) := by
        rw [hem]
        simp only [List.cons_append, List.nil_append, foldT, if_pos hcan]
      rw [ef]
      refine ⟨r1, by rw [r2, hem]; simp only [List.cons_append, List.nil_append, List.length_cons]; omega, r3, fun q hq => ?_⟩
      rw [r4 q hq]
      by_cases hqp : q = p
      · subst hqp
        rw [if_neg hn1, if_pos (List.mem_cons_self ..), hlook q hq, if_pos rfl, he, hv]
      · by_cases hqk : q ∈ ks
        · rw [if_pos hqk, if_pos (List.mem_cons_of_mem _ hqk)]
        · rw [if_neg hqk, if_neg (by simp [hqp, hqk]), hlook q hq, if_neg hqp]
    cases hew : e.was with
    | true =>
      cases hes : e.is with
      | true => exact one 2 (by simp [emit, hew, hes]) (by simp) (by simp [may, g2 hes]) (by simp [hew]) (by simp [isV, hes, after])
      | false =>
        obtain ⟨q1, q2⟩ := g3 hes
        refine one 3 (by simp [emit, hew, hes]) (by simp) ?_ (by simp [hew]) (by simp [isV, hes, after])
        have : e.r = bare e.r.to := by rw [g1]; exact q1
        simp [may, g1, q2, q1]
        exact ⟨q2, rfl⟩
    | false =>
      cases hes : e.is with
      | true => exact one 1 (by simp [emit, hew, hes]) (by simp) (by simp [may, g2 hes]) (by simp [hew]) (by simp [isV, hes, after])
      | false =>
        have hem : emit e = [] := by simp [emit, hew, hes]
        rw [hem, List.nil_append]
        obtain ⟨r1, r2, r3, r4⟩ := Fol.emits F ks T k hn2 hk2 hT (fun q hq => hsame q (List.mem_cons_of_mem _ hq)) (by omega)
        refine ⟨r1, r2, r3, fun q hq => ?_⟩
        rw [r4 q hq]
        by_cases hqp : q = p
        · subst hqp
          rw [if_neg hn1, if_pos (List.mem_cons_self ..), he, hs]
          rw [hew] at hw
          cases hz : lookR T0 q with
          | none => simp [isV, hes]
          | some r => rw [hz] at hw; cases hw
        · by_cases hqk : q ∈ ks
          · rw [if_pos hqk, if_pos (List.mem_cons_of_mem _ hqk)]
          · rw [if_neg hqk, if_neg (by simp [hqp, hqk])]

theorem fol0 (T : List Route) : Fol T T [] := ⟨Wm.nil, fun _ _ _ => rfl, (fun _ _ _ h => by cases h), (fun _ _ _ h => by cases h), fun _ _ h => by cases h⟩

/-- THE STAGE's THEOREM. -/
theorem stageG {T : List Route} {A B : List Inc} (hT : TabL T) (hA : ∀ i ∈ A, i.ok) (hB : ∀ i ∈ B, i.ok) (hl : ∀ L, mfold [] (A ++ B) = some L → T.length + L.length ≤ 299) (h1 : (foldT T A 0).2.2 = 0) (h2 : (foldT (foldT T A 0).1 B 0).2.2 = 0) :
    ∃ l, mergeP A B = some l ∧ (foldT T l 0).2.2 = 0 ∧ (foldT T l 0).2.1 = l.length ∧ (foldT T l 0).1 = (foldT (foldT T A 0).1 B 0).1 := by
  obtain ⟨L1, q1, F1, T1, w1, l1⟩ := Fol.fold A T [] 0 hA hT (fol0 T) h1
  obtain ⟨L2, q2, F2, T2, w2, l2⟩ := Fol.fold B _ L1 0 hB T1 F1 h2
  have hm : mergeP A B = some (emits L2 (skeys L2)) := by
    unfold mergeP
    rw [w1, w2, mfold_append, q1]
    simp only [Bool.or_self, Bool.false_eq_true, if_false, q2]
    rfl
  have hL4 : ∀ q ∈ L2, q.1.ok := fun q hq => (F2.w.ok q hq).1
  have hks : ∀ p ∈ skeys L2, p.ok ∧ lookP L2 p ≠ none := fun p hp => by
    have hmem := (skeys_perm hL4).subset hp
    obtain ⟨q, hq, rfl⟩ := List.mem_map.1 hmem
    exact ⟨hL4 q hq, lookP_mem.2 hmem⟩
  have hnd : (skeys L2).Nodup := (skeys_perm hL4).nodup_iff.2 F2.w.nodup
  have hlen := skeys_len hL4
  have hfew := hl L2 (by rw [mfold_append, q1]; exact q2)
  obtain ⟨r1, r2, r3, r4⟩ := F2.emits (skeys L2) T 0 hnd hks hT (fun _ _ => rfl) (by omega)
  refine ⟨_, hm, r1, by omega, r3.sl.ext T2.sl fun p hp => ?_⟩
  rw [r4 p hp]
  by_cases hpk : p ∈ skeys L2
  · rw [if_pos hpk]
    obtain ⟨e, he⟩ := Option.ne_none_iff_exists'.1 (hks p hpk).2
    rw [he, F2.is p e hp he]
    rfl
  · rw [if_neg hpk]
    have hn : lookP L2 p = none := by
      cases h : lookP L2 p with
      | none => rfl
      | some e =>
        have : p ∈ L2.map (·.1) := lookP_mem.1 (by rw [h]; simp)
        exact (hpk ((skeys_perm hL4).symm.subset this)).elim
    rw [F2.keep p hp hn]

theorem stage {T : List Route} {A B : List Inc} (hT : TabL T) (hT2 : T.length ≤ 100) (hA : ∀ i ∈ A, i.ok) (hB : ∀ i ∈ B, i.ok) (hl : A.length + B.length ≤ 190) (h1 : (foldT T A 0).2.2 = 0) (h2 : (foldT (foldT T A 0).1 B 0).2.2 = 0) :
    ∃ l, mergeP A B = some l ∧ (foldT T l 0).2.2 = 0 ∧ (foldT T l 0).2.1 = l.length ∧ (foldT T l 0).1 = (foldT (foldT T A 0).1 B 0).1 :=
  stageG hT hA hB (fun L hL => by
    have hAB : ∀ i ∈ A ++ B, i.ok := fun i hi => by
      rcases List.mem_append.1 hi with hi | hi
      · exact hA i hi
      · exact hB i hi
    have := (mfold_wm (A ++ B) [] L hAB Wm.nil hL).2
    simp only [List.length_append, List.length_nil] at this
    omega) h1 h2

end Go.Proofs.YtobdjegooonklaaGreat
