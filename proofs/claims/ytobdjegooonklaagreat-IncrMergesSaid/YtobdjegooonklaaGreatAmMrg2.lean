/- Merged rows: the program and the reference come to the same. Conditions: none. -/
import Derived.Test.YtobdjegooonklaaGreatAmRefM6
import Derived.Test.YtobdjegooonklaaGreatAmMrg3
set_option linter.unusedSimpArgs false
set_option linter.unusedVariables false
namespace Go.Proofs.YtobdjegooonklaaGreat
open Go Go.AM

theorem lastN_succ {l : List Inc} {j : Nat} {i : Inc} (h : l[j]? = some i) (p : Pre) : lastN l p (j + 1) = if i.r.to = p then some j else lastN l p j := by simp only [lastN, h]

def wasV (o : Option Ef) (p : Pre) : Option Route := match o with
  | some e => if e.was = true then some (bare p) else none
  | none => none

/-- What the program's map and the reference's lists have to do with one another. -/
structure Link (l : List Inc) (j : Nat) (L : Eff3) (W S : List Route) : Prop where
  w : Wm L
  last : ∀ p, match lastN l p j with
    | none => lookP L p = none
    | some k => ∃ e q, lookP L p = some e ∧ l[k]? = some q ∧ e.is = (q.kind != 3)
  was : ∀ p : Pre, p.ok → lookR W p = wasV (lookP L p) p
  is : ∀ p : Pre, p.ok → lookR S p = isV (lookP L p)
  good : ∀ p e, lookP L p = some e → e.r.to = p ∧ (e.is = true → rightR e.r = true) ∧ (e.is = false → e.r = bare p ∧ right p = true)

theorem look_isF {S : List Route} (s : SL S) {i : Inc} (hi : i.ok) {p : Pre} (hp : p.ok) : lookR (isF S i) p = if p = i.r.to then after i else lookR S p := by
  unfold isF after
  by_cases h3 : i.kind = 3
  · rw [if_pos h3, if_pos h3, look_drop s hi.2.1 hp]
  · rw [if_neg h3, if_neg h3, look_put (s.drop _) hi.2 (has_drop s hi.2.1) hp]
    by_cases h : p = i.r.to
    · rw [if_pos h, if_pos h]
    · rw [if_neg h, if_neg h, look_drop s hi.2.1 hp, if_neg h]

theorem Link.next {l : List Inc} {j : Nat} {L : Eff3} {W S W' : List Route} (k : Link l j L W S) (I : RInv l j W S) {i : Inc} (hi : i.ok) (hm : may i = true) (hj : l[j]? = some i) {w0 : Bool} (hW : ∀ p : Pre, p.ok → lookR W' p = if p = i.r.to then (if w0 = true then some (bare p) else none) else lookR W p) : Link l (j + 1) (setP L i.r.to (efOf w0 i)) W' (isF S i) := by
  refine ⟨k.w.set hi.2.1 hi.2, fun p => ?_, fun p hp => ?_, fun p hp => ?_, fun p e he => ?_⟩
  · rw [lastN_succ hj, look_setP]
    by_cases h : i.r.to = p
    · rw [if_pos h, if_pos h.symm]
      exact ⟨efOf w0 i, i, rfl, hj, rfl⟩
    · rw [if_neg h, if_neg fun e => h e.symm]
      exact k.last p
  · rw [look_setP, hW p hp]
    by_cases h : p = i.r.to
    · rw [if_pos h, if_pos h]; rfl
    · rw [if_neg h, if_neg h]; exact k.was p hp
  · rw [look_setP, look_isF I.s hi hp]
    by_cases h : p = i.r.to
    · rw [if_pos h, if_pos h]
      unfold after isV efOf
      by_cases h3 : i.kind = 3 <;> simp [h3]
    · rw [if_neg h, if_neg h]; exact k.is p hp
  · rw [look_setP] at he
    by_cases h : p = i.r.to
    · rw [if_pos h] at he
      injection he with he
      subst he
      refine ⟨h.symm, fun hs => ?_, fun hs => ?_⟩
      · have h3 : i.kind ≠ 3 := by simpa [efOf] using hs
        exact (may_add hm h3).1
      · have h3 : i.kind = 3 := by simpa [efOf] using hs
        have := may_three hm h3
        rw [h]
        exact this
    · rw [if_neg h] at he
      exact k.good p e he

theorem kind_bool {a b : Int} {s : Bool} (h : s = (a != 3)) : ((a == 3) = (b == 1)) ↔ ¬ (s = (b == 1)) := by
  subst h
  by_cases h1 : a = 3
  · by_cases h2 : b = 1 <;> simp [h1, h2]
  · have e1 : (a == 3) = false := by simp [h1]
    have e2 : (a != 3) = true := by simp [h1]
    by_cases h2 : b = 1 <;> simp [e1, e2, h2]

theorem Link.step {l : List Inc} {j : Nat} {L : Eff3} {W S : List Route} (k : Link l j L W S) (I : RInv l j W S) {i : Inc} (hi : i.ok) (hm : may i = true) (hj : l[j]? = some i) :
    (mstep L i = none ∧ rstep l j i W S = none) ∨ ∃ L' W' S', mstep L i = some L' ∧ rstep l j i W S = some (W', S') ∧ Link l (j + 1) L' W' S' := by
  have hlast := k.last i.r.to
  have hwas := k.was i.r.to hi.2.1
  cases hn : lastN l i.r.to j with
  | none =>
    rw [hn] at hlast
    right
    refine ⟨setP L i.r.to (efOf (!(i.kind == 1)) i), if i.kind = 1 then W else putA W (bare i.r.to), isF S i, by simp only [mstep, hlast], by simp only [rstep, hn], ?_⟩
    have hno := I.noW hi.2.1 hn
    refine k.next I hi hm hj fun p hp => ?_
    by_cases h1 : i.kind = 1
    · have e1 : (!(i.kind == 1)) = false := by simp [h1]
      rw [if_pos h1, e1]
      by_cases h : p = i.r.to
      · rw [if_pos h, h, hwas, hlast]; rfl
      · rw [if_neg h]
    · have e1 : (!(i.kind == 1)) = true := by simp [h1]
      rw [if_neg h1, e1, look_put I.w (bare_ok hi.2.1) hno hp]
      by_cases h : p = i.r.to
      · have h' : p = (bare i.r.to).to := h
        rw [if_pos h', if_pos h, h]; rfl
      · have h' : ¬ p = (bare i.r.to).to := h
        rw [if_neg h', if_neg h]
  | some k0 =>
    rw [hn] at hlast
    obtain ⟨e, q, he, hq, hs⟩ := hlast
    have hkb := kind_bool (a := q.kind) (b := i.kind) hs
    by_cases hb : e.is = (i.kind == 1)
    · left
      refine ⟨by simp only [mstep, he, if_pos hb], ?_⟩
      have : ¬ ((q.kind == 3) = (i.kind == 1)) := fun h => hkb.1 h hb
      simp only [rstep, hn, hq, if_neg this]
    · right
      refine ⟨setP L i.r.to (efOf e.was i), W, isF S i, by simp only [mstep, he, if_neg hb], by simp only [rstep, hn, hq, if_pos (hkb.2 hb)], ?_⟩
      refine k.next I hi hm hj fun p hp => ?_
      by_cases h : p = i.r.to
      · rw [if_pos h, h, hwas, he]; rfl
      · rw [if_neg h]

theorem Link.fold {l : List Inc} (hok : ∀ i ∈ l, i.ok) (hm : wrongs l = false) : ∀ (rest pre : List Inc) (L : Eff3) (W S : List Route), pre ++ rest = l → Link l pre.length L W S → RInv l pre.length W S →
    (mfold L rest = none ∧ rfold l rest pre.length W S = none) ∨ ∃ L' W' S', mfold L rest = some L' ∧ rfold l rest pre.length W S = some (W', S') ∧ Link l l.length L' W' S' ∧ RInv l l.length W' S'
  | [], pre, L, W, S, hl, k, I => by
    have : pre.length = l.length := by rw [← hl]; simp
    rw [this] at k I
    exact .inr ⟨L, W, S, rfl, rfl, k, I⟩
  | i :: rest, pre, L, W, S, hl, k, I => by
    have hj : l[pre.length]? = some i := by rw [← hl]; simp
    have hmem : i ∈ l := List.mem_of_getElem? hj
    have hi := hok i hmem
    have hmi : may i = true := by
      cases h : may i with
      | true => rfl
      | false =>
        have : wrongs l = true := List.any_eq_true.2 ⟨i, hmem, by simp [h]⟩
        rw [hm] at this
        cases this
    rcases k.step I hi hmi hj with ⟨h1, h2⟩ | ⟨L1, W1, S1, h1, h2, k1⟩
    · exact .inl ⟨by simp only [mfold, h1], by simp only [rfold, h2]⟩
    · have I1 := I.step hi hj h2
      have := Link.fold hok hm rest (pre ++ [i]) L1 W1 S1 (by rw [← hl]; simp) (by simpa using k1) (by simpa using I1)
      simp only [mfold, h1, rfold, h2]
      simpa using this

theorem link0 (l : List Inc) : Link l 0 [] [] [] := by
  refine ⟨Wm.nil, fun p => rfl, fun p hp => ?_, fun p hp => ?_, fun p e he => ?_⟩
  · rfl
  · rfl
  · cases he
theorem rinv0 (l : List Inc) : RInv l 0 [] [] := ⟨⟨by simp, .nil⟩, ⟨by simp, .nil⟩, by simp, by simp, by simp⟩

/-! ### The answers -/
theorem allF_look : ∀ (W A : List Route), SL A → (∀ r ∈ W, r.ok) → SL (allF A W) ∧ ∀ p : Pre, p.ok → (has (allF A W) p = true ↔ has A p = true ∨ ∃ w ∈ W, w.to = p)
  | [], A, sA, _ => ⟨sA, fun p hp => by simp [allF]⟩
  | w :: W, A, sA, hW => by
    have hw := hW w (List.mem_cons_self ..)
    have hW' : ∀ r ∈ W, r.ok := fun r hr => hW r (List.mem_cons_of_mem _ hr)
    cases hh : has A w.to with
    | true =>
      obtain ⟨h1, h2⟩ := allF_look W A sA hW'
      have e : allF A (w :: W) = allF A W := by simp [allF, hh]
      rw [e]
      refine ⟨h1, fun p hp => ?_⟩
      rw [h2 p hp]
      constructor
      · rintro (h | ⟨v, hv, hp⟩)
        · exact .inl h
        · exact .inr ⟨v, List.mem_cons_of_mem _ hv, hp⟩
      · rintro (h | ⟨v, hv, hvp⟩)
        · exact .inl h
        · rcases List.mem_cons.1 hv with rfl | hv
          · left; rw [← hvp]; exact hh
          · exact .inr ⟨v, hv, hvp⟩
    | false =>
      obtain ⟨h1, h2⟩ := allF_look W (putA A w) (sA.put hw hh) hW'
      have e : allF A (w :: W) = allF (putA A w) W := by simp [allF, hh]
      rw [e]
      refine ⟨h1, fun p hp => ?_⟩
      rw [h2 p hp, (sA.put hw hh).has_look hp, look_put sA hw hh hp, sA.has_look hp]
      constructor
      · rintro (h | ⟨v, hv, hvp⟩)
        · by_cases hpw : p = w.to
          · exact .inr ⟨w, List.mem_cons_self .., hpw.symm⟩
          · rw [if_neg hpw] at h; exact .inl h
        · exact .inr ⟨v, List.mem_cons_of_mem _ hv, hvp⟩
      · rintro (h | ⟨v, hv, hvp⟩)
        · by_cases hpw : p = w.to
          · rw [if_pos hpw]; exact .inl rfl
          · rw [if_neg hpw]; exact .inl h
        · rcases List.mem_cons.1 hv with rfl | hv
          · rw [if_pos hvp.symm]; exact .inl rfl
          · exact .inr ⟨v, hv, hvp⟩

def stays (L : Eff3) (p : Pre) : Bool := match lookP L p with
  | some e => e.was || e.is
  | none => false

theorem emits_map {l : List Inc} {j : Nat} {L : Eff3} {W S : List Route} (k : Link l j L W S) (I : RInv l j W S) : ∀ (ks : List Pre), (∀ p ∈ ks, p.ok) → emits L ks = (ks.filter (stays L)).map (emitR S W)
  | [], _ => rfl
  | p :: ks, hk => by
    have hp := hk p (List.mem_cons_self ..)
    have ih := emits_map k I ks fun q hq => hk q (List.mem_cons_of_mem _ hq)
    have e1 : emits L (p :: ks) = emit ((lookP L p).getD zEf) ++ emits L ks := rfl
    rw [e1, ih, List.filter_cons]
    have h1 := I.w.has_look hp
    have h2 := I.s.has_look hp
    rw [k.was p hp] at h1
    have h3 := k.is p hp
    rw [h3] at h2
    unfold lookR at h3
    cases hL : lookP L p with
    | none =>
      have hst : stays L p = false := by simp [stays, hL]
      rw [hst]
      rfl
    | some e =>
      obtain ⟨g1, g2, g3⟩ := k.good p e hL
      rw [hL] at h1 h2 h3
      obtain ⟨ew, es, er⟩ := e
      cases ew <;> cases es
      · have hst : stays L p = false := by simp [stays, hL]
        rw [hst]
        rfl
      · have hst : stays L p = true := by simp [stays, hL]
        rw [hst]
        simp only [wasV, isV, Bool.false_eq_true, if_false, if_true, Option.isSome_none, Option.isSome_some] at h1 h2 h3
        rw [h2, if_pos rfl] at h3
        simp [emit, emitR, h1, h2, h3]
      · have hst : stays L p = true := by simp [stays, hL]
        rw [hst]
        simp only [wasV, isV, Bool.false_eq_true, if_false, if_true, Option.isSome_none, Option.isSome_some] at h1 h2 h3
        have := (g3 rfl).1
        simp only at this
        simp [emit, emitR, h1, h2, this]
      · have hst : stays L p = true := by simp [stays, hL]
        rw [hst]
        simp only [wasV, isV, Bool.false_eq_true, if_false, if_true, Option.isSome_none, Option.isSome_some] at h1 h2 h3
        rw [h2, if_pos rfl] at h3
        simp [emit, emitR, h1, h2, h3]

/-- THE PROGRAM's MERGED ROW IS THE REFERENCE's. -/
theorem merge_ref {A B : List Inc} (hA : ∀ i ∈ A, i.ok) (hB : ∀ i ∈ B, i.ok) : mergeP A B = refM (A ++ B) := by
  have hok : ∀ i ∈ A ++ B, i.ok := fun i hi => by
    rcases List.mem_append.1 hi with hi | hi
    · exact hA i hi
    · exact hB i hi
  have hw : wrongs (A ++ B) = (wrongs A || wrongs B) := by unfold wrongs; rw [List.any_append]
  unfold mergeP refM
  rw [← hw]
  cases hm : wrongs (A ++ B) with
  | true => rfl
  | false =>
    simp only [Bool.false_eq_true, if_false]
    rcases Link.fold hok hm (A ++ B) [] [] [] [] rfl (link0 _) (rinv0 _) with ⟨h1, h2⟩ | ⟨L, W, S, h1, h2, k, I⟩
    · rw [h1]
      rw [show ([] : List Inc).length = 0 from rfl] at h2
      rw [h2]
      rfl
    · rw [h1]
      rw [show ([] : List Inc).length = 0 from rfl] at h2
      rw [h2]
      simp only [Option.map_some, Option.some.injEq]
      have hL4 : ∀ q ∈ L, q.1.ok := fun q hq => (k.w.ok q hq).1
      have hkp : ∀ p ∈ skeys L, p.ok := fun p hp => by
        obtain ⟨q, hq, rfl⟩ := List.mem_map.1 ((skeys_perm hL4).subset hp)
        exact hL4 q hq
      obtain ⟨sA, hA'⟩ := allF_look W S I.s I.w.ok
      rw [emits_map k I _ hkp]
      have key : (skeys L).filter (stays L) = (allF S W).map (·.to) := by
        refine sorted_ext (fun p : Pre => p) ((skeys_sorted hL4 k.w.nodup).sublist List.filter_sublist) ?_ (fun p hp => hkp p (List.mem_filter.1 hp).1) (fun p hp => ?_) fun p => ?_
        · rw [List.pairwise_map]; exact sA.sorted
        · obtain ⟨r, hr, rfl⟩ := List.mem_map.1 hp
          exact (sA.ok r hr).1
        · have step1 : p.ok → (p ∈ (allF S W).map (·.to) ↔ has (allF S W) p = true) := fun hp => by
            constructor
            · intro h
              obtain ⟨r, hr, rfl⟩ := List.mem_map.1 h
              exact has_of_mem sA hr
            · intro h
              obtain ⟨r, hr, hrp⟩ := has_mem sA hp h
              exact List.mem_map.2 ⟨r, hr, hrp⟩
          have step2 : p.ok → ((∃ w ∈ W, w.to = p) ↔ has W p = true) := fun hp => by
            constructor
            · rintro ⟨w, hw, rfl⟩
              exact has_of_mem I.w hw
            · intro h
              exact has_mem I.w hp h
          rw [List.mem_filter]
          constructor
          · rintro ⟨h3, h4⟩
            have hp := hkp p h3
            rw [step1 hp, hA' p hp, step2 hp, I.s.has_look hp, I.w.has_look hp, k.is p hp, k.was p hp]
            unfold stays at h4
            cases hk : lookP L p with
            | none => rw [hk] at h4; cases h4
            | some e =>
              rw [hk] at h4
              simp only [Bool.or_eq_true] at h4
              rcases h4 with h4 | h4
              · right; simp [wasV, h4]
              · left; simp [isV, h4]
          · intro h3
            have hp : p.ok := by
              obtain ⟨r, hr, rfl⟩ := List.mem_map.1 h3
              exact (sA.ok r hr).1
            rw [step1 hp, hA' p hp, step2 hp, I.s.has_look hp, I.w.has_look hp, k.is p hp, k.was p hp] at h3
            cases hk : lookP L p with
            | none => rw [hk] at h3; simp [wasV, isV] at h3
            | some e =>
              rw [hk] at h3
              refine ⟨(skeys_perm hL4).symm.subset (lookP_mem.1 (by rw [hk]; simp)), ?_⟩
              unfold stays
              rw [hk]
              simp only [Bool.or_eq_true]
              rcases h3 with h3 | h3
              · right
                unfold isV at h3
                simp only at h3
                split at h3
                · assumption
                · cases h3
              · left
                unfold wasV at h3
                simp only at h3
                split at h3
                · assumption
                · cases h3
      rw [key, List.map_map]
      rfl

end Go.Proofs.YtobdjegooonklaaGreat
