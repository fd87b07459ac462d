/- Slice expressions, conversions, and all operations that call nothing, joined. Conditions: none. -/
import Derived.Test.YtobdjegooonklaaGreatAmOps3
import Derived.IntWalk
set_option linter.unusedVariables false
set_option linter.unusedSimpArgs false
namespace Go.AM
open Go

variable {F : Fz} {m : Mp} {fr : FR} {a : Act} {h : Heap} {w : World} {P : Program}

def ORel (F : Fz) (m : Mp) : Option AV → Option Value → Prop
  | none, none => True
  | some x, some v => VRel F m x v
  | _, _ => False

theorem bound_some {x : AV} {v : Value} {d most n : Nat} (hb : bound (some x) d most = some n) (hv : VRel F m x v) : ∃ k i, v = .int k i ∧ 0 ≤ i ∧ i ≤ (most : Int) ∧ i.toNat = n := by
  unfold bound at hb
  split at hb
  · rename_i he; cases he
  · rename_i k i he
    injection he with he
    subst he
    cases hd : (decide (0 ≤ i) && decide (i ≤ (most : Int))) with
    | false => simp [hd] at hb
    | true =>
      simp only [hd, cond_true, Option.some.injEq] at hb
      rw [Bool.and_eq_true, decide_eq_true_eq, decide_eq_true_eq] at hd
      simp only [VRel] at hv
      exact ⟨k, i, hv.2, hd.1, hd.2, hb⟩
  · cases hb

theorem sliceBound_run {k : IntKind} {i : Int} {y : Nat} {code : BoundsCode} (h0 : 0 ≤ i) (h1 : i ≤ (y : Int)) (w : World) : (Instr.sliceBound (.int k i) y code).run P w = .ok i.toNat w := by
  simp [-bind_pure_comp, Instr.sliceBound, asIntOf, h0, h1]

theorem bounds_run {b : Bool} {len cap M : Nat} {lo hi mx : Option AV} {lov hiv mxv : Option Value} {p q mm : Nat} (hlo : ORel F m lo lov) (hhi : ORel F m hi hiv) (hmx : ORel F m mx mxv)
    (hM : M ≤ cap) (h1 : bound mx M M = some mm) (h2 : bound hi len mm = some q) (h3 : bound lo 0 q = some p) (hno : (mx.isSome && hi.isNone) = false) :
    (Instr.sliceBounds b len cap lov hiv mxv).run P w = .ok (p, q, if mx.isNone then cap else mm) w ∧ p ≤ q ∧ (mx.isNone = false → mm ≤ M) ∧ (hi.isNone = false → q ≤ mm) ∧ (hi.isNone = true → q = len) ∧ (mx.isNone = true → mm = M) := by
  have hl : p ≤ q ∧ ((lov = none ∧ p = 0) ∨ ∃ k i, lov = some (.int k i) ∧ 0 ≤ i ∧ i ≤ (q : Int) ∧ i.toNat = p) := by
    cases lo with
    | none =>
      cases lov with
      | none => simp [bound] at h3; exact ⟨by omega, .inl ⟨rfl, h3.symm⟩⟩
      | some v => simp [ORel] at hlo
    | some x =>
      cases lov with
      | none => simp [ORel] at hlo
      | some v =>
        simp only [ORel] at hlo
        obtain ⟨k, i, rfl, g0, g1, g2⟩ := bound_some h3 hlo
        exact ⟨by omega, .inr ⟨k, i, rfl, g0, g1, g2⟩⟩
  obtain ⟨hpq, hl⟩ := hl
  cases mx with
  | none =>
    cases mxv with
    | some v => simp [ORel] at hmx
    | none =>
      simp [bound] at h1
      subst h1
      cases hi with
      | none =>
        cases hiv with
        | some v => simp [ORel] at hhi
        | none =>
          simp [bound] at h2
          subst h2
          refine ⟨?_, hpq, by simp, by simp, by simp, by simp⟩
          rcases hl with ⟨rfl, rfl⟩ | ⟨kl, il, rfl, l0, l1, l2⟩
          · simp [-bind_pure_comp, Instr.sliceBounds]
          · simp [-bind_pure_comp, Instr.sliceBounds, sliceBound_run l0 l1, l2]
      | some x =>
        cases hiv with
        | none => simp [ORel] at hhi
        | some v =>
          simp only [ORel] at hhi
          obtain ⟨k, i, rfl, g0, g1, g2⟩ := bound_some h2 hhi
          refine ⟨?_, hpq, by simp, fun _ => by omega, by simp, by simp⟩
          have hs : ∀ c, (Instr.sliceBound (.int k i) cap c).run P w = .ok q w := fun c => by rw [sliceBound_run g0 (by omega), g2]
          rcases hl with ⟨rfl, rfl⟩ | ⟨kl, il, rfl, l0, l1, l2⟩
          · simp [-bind_pure_comp, Instr.sliceBounds, hs]
          · simp [-bind_pure_comp, Instr.sliceBounds, hs, sliceBound_run l0 l1, l2]
  | some xm =>
    cases mxv with
    | none => simp [ORel] at hmx
    | some vm =>
      simp only [ORel] at hmx
      obtain ⟨km, im, rfl, gm0, gm1, gm2⟩ := bound_some h1 hmx
      cases hi with
      | none => simp at hno
      | some x =>
        cases hiv with
        | none => simp [ORel] at hhi
        | some v =>
          simp only [ORel] at hhi
          obtain ⟨k, i, rfl, g0, g1, g2⟩ := bound_some h2 hhi
          refine ⟨?_, hpq, fun _ => by omega, fun _ => by omega, by simp, by simp⟩
          have hm : ∀ c, (Instr.sliceBound (.int km im) cap c).run P w = .ok mm w := fun c => by rw [sliceBound_run gm0 (by omega), gm2]
          have hs : ∀ c, (Instr.sliceBound (.int k i) mm c).run P w = .ok q w := fun c => by rw [sliceBound_run g0 (by omega), g2]
          rcases hl with ⟨rfl, rfl⟩ | ⟨kl, il, rfl, l0, l1, l2⟩
          · simp [-bind_pure_comp, Instr.sliceBounds, hm, hs]
          · simp [-bind_pure_comp, Instr.sliceBounds, hm, hs, sliceBound_run l0 l1, l2]

theorem sliceAt_slice {t e : TypeId} (hu : P.underlying t = some (.slice e)) (x : Value) (lo hi mx : Option Value) (w : World) : (Instr.sliceAt t x lo hi mx).run P w = (Instr.slice t x lo hi mx).run P w := by
  simp [Instr.sliceAt, run_underlying hu]

theorem slice_run {t e : TypeId} {k : Nat} (hu : P.underlying t = some (.slice e)) (hk : szOf P e = some k) {ad : Option Addr} {len cap p q mm : Nat} {lo hi mx : Option Value}
    (hb : (Instr.sliceBounds true len cap lo hi mx).run P w = .ok (p, q, mm) w) :
    (Instr.sliceAt t (.slice ad len cap) lo hi mx).run P w = .ok (.slice (if mm = p then ad else ad.map (·.add (p * k))) (q - p) (mm - p)) w := by
  rw [sliceAt_slice hu]
  simp [-bind_pure_comp, Instr.slice, run_underlying hu, hb, szOf_run hk]

theorem slice_str_run {t : TypeId} (hu : P.underlying t = some .string) {s : ByteArray} {p q mm : Nat} {lo hi : Option Value} (hb : (Instr.sliceBounds false s.size s.size lo hi none).run P w = .ok (p, q, mm) w) :
    (Instr.sliceAt t (.string s) lo hi none).run P w = .ok (.string (s.extract p q)) w := by
  have h1 : (Instr.sliceAt t (.string s) lo hi none).run P w = (Instr.slice t (.string s) lo hi none).run P w := by simp [Instr.sliceAt, run_underlying hu]
  rw [h1]
  simp [-bind_pure_comp, Instr.slice, run_underlying hu, hb]

theorem slice_arr_run {t e : TypeId} {n k : Nat} (hu : P.underlying t = some (.array n e)) (hk : szOf P e = some k) {ad : Addr} {p q mm : Nat} {lo hi : Option Value}
    (hb : (Instr.sliceBounds false n n lo hi none).run P w = .ok (p, q, mm) w) :
    (Instr.sliceAt t (.pointer (some ad)) lo hi none).run P w = .ok (.slice (some (if mm = p then ad else ad.add (p * k))) (q - p) (mm - p)) w := by
  simp [-bind_pure_comp, Instr.sliceAt, run_underlying hu, Instr.sureAddr, hb, szOf_run hk]

theorem sliceE_run (r : Rel F m h w) {t : TypeId} {x y : AV} {lo hi mx : Option AV} {xv : Value} {lov hiv mxv : Option Value} (hx : VRel F m x xv) (hlo : ORel F m lo lov) (hhi : ORel F m hi hiv) (hmx : ORel F m mx mxv)
    (ho : sliceE P h t x lo hi mx = some y) : ∃ v, (Instr.sliceAt t xv lov hiv mxv).run P w = .ok v w ∧ VRel F m y v := by
  unfold sliceE at ho
  cases hno : (mx.isSome && hi.isNone) with
  | true => simp [hno] at ho
  | false =>
    simp only [hno, cond_false] at ho
    split at ho
    · -- a string
      rename_i hu
      split at ho
      · rename_i s
        split at ho
        · rename_i q hq
          split at ho
          · rename_i p hp
            injection ho with ho
            subst ho
            cases mxv with
            | some v => simp [ORel] at hmx
            | none =>
              simp only [VRel] at hx
              obtain ⟨_, rfl⟩ := hx
              obtain ⟨b1, _⟩ := bounds_run (P := P) (w := w) (b := false) hlo hhi hmx (Nat.le_refl s.size) (mm := s.size) (by simp [bound]) hq hp (by simp)
              exact ⟨_, slice_str_run hu b1, by simp [VRel, free]⟩
          · cases ho
        · cases ho
      · cases ho
    · -- a slice
      rename_i e hu
      split at ho
      · -- nil
        rename_i k hk
        split at ho
        · rename_i mm h1
          split at ho
          · rename_i q h2
            split at ho
            · rename_i p h3
              injection ho with ho
              subst ho
              simp only [VRel] at hx
              obtain ⟨_, rfl⟩ := hx
              have h2' : bound hi 0 mm = some q := by
                cases mx with
                | none => simp [bound] at h1; subst h1; exact h2
                | some xm =>
                  cases mxv with
                  | none => simp [ORel] at hmx
                  | some vm =>
                    obtain ⟨_, i, _, g0, g1, g2⟩ := bound_some h1 hmx
                    have : mm = 0 := by omega
                    subst this; exact h2
              obtain ⟨b1, b2, b3, b4, b5, b6⟩ := bounds_run (P := P) (w := w) (b := true) hlo hhi hmx (Nat.le_refl 0) h1 h2' h3 hno
              have hq0 : q = 0 := by
                cases hh : hi.isNone with
                | true => exact b5 hh
                | false =>
                  have := b4 hh
                  cases hm : mx.isNone with
                  | true => have := b6 hm; omega
                  | false => have := b3 hm; omega
              subst hq0
              have hp0 : p = 0 := by omega
              subst hp0
              refine ⟨_, slice_run hu hk b1, ?_⟩
              have hz : (if mx.isNone = true then 0 else mm) = 0 := by
                split
                · rfl
                · rename_i hm; have := b3 (by cases mx <;> simp_all); omega
              rw [hz]
              simp [VRel, free]
            · cases ho
          · cases ho
        · cases ho
      · -- frozen
        rename_i k' full l k hk
        split at ho
        · rename_i mm h1
          split at ho
          · rename_i q h2
            split at ho
            · rename_i p h3
              cases hb : Nat.beq k' k with
              | false => simp [hb] at ho
              | true =>
                simp only [hb, cond_true, Option.some.injEq] at ho
                subst ho
                have ek : k' = k := Nat.eq_of_beq_eq_true hb
                subst ek
                simp only [VRel] at hx
                obtain ⟨ad, cap, cs, g1, g2, g3, g4, g5, g6, rfl⟩ := hx
                obtain ⟨b1, b2, b3, b4, b5, b6⟩ := bounds_run (P := P) (w := w) (b := true) hlo hhi hmx g5 h1 h2 h3 hno
                have hq : q ≤ l.length := by
                  cases hh : hi.isNone with
                  | true => have := b5 hh; omega
                  | false =>
                    have := b4 hh
                    cases hm : mx.isNone with
                    | true => have := b6 hm; omega
                    | false => have := b3 hm; omega
                have hqm : mx.isNone = false → q ≤ mm := fun hm => by
                  cases hh : hi.isNone with
                  | true => cases mx <;> simp_all
                  | false => exact b4 hh
                refine ⟨_, slice_run hu hk b1, ?_⟩
                have hlen : ((l.take q).drop p).length = q - p := by simp; omega
                have hcells : CL F m ((l.take q).drop p) ((cs.take (q * k')).drop (p * k')) := CL_drop (CL_take g1 g2 q) (allK_take q g2) p
                have hfc : ∀ ad' : Addr, (q - p = 0 ∨ ad' = ad.add (p * k')) → FC F ad' ((cs.take (q * k')).drop (p * k')) := by
                  intro ad' hh
                  rcases hh with hh | rfl
                  · have : (cs.take (q * k')).drop (p * k') = [] := List.drop_eq_nil_of_le (by rw [List.length_take]; exact Nat.le_trans (Nat.min_le_left _ _) (Nat.mul_le_mul_right _ (by omega)))
                    rw [this]; intro j c hj; simp at hj
                  · refine FC.sub g3 g4 (fun j c hj => ?_)
                    simp only [List.getElem?_drop, List.getElem?_take] at hj
                    split at hj
                    · exact hj
                    · cases hj
                simp only [VRel]
                generalize hM : (if mx.isNone = true then cap else mm) = MM at b1 ⊢
                have hMq : q ≤ MM := by
                  subst hM
                  split
                  · omega
                  · rename_i hm; exact hqm (by cases mx <;> simp_all)
                refine ⟨if MM = p then ad else ad.add (p * k'), MM - p, _, hcells, allK_drop p (allK_take q g2), hfc _ ?_, ?_, by rw [hlen]; omega, ?_, ?_⟩
                · split
                  · rename_i e; left; omega
                  · right; rfl
                · split
                  · exact g4
                  · exact spot_add g4 _
                · intro hfull
                  rw [hlen]
                  cases hm : mx.isNone with
                  | true =>
                    simp only [hm, cond_true] at hfull
                    rw [Bool.and_eq_true] at hfull
                    have e1 := g6 hfull.1
                    have e2 : q = l.length := Nat.eq_of_beq_eq_true hfull.2
                    simp only [hm, if_true] at hM
                    omega
                  | false =>
                    simp only [hm, cond_false] at hfull
                    have e2 : q = mm := Nat.eq_of_beq_eq_true hfull
                    simp [hm] at hM
                    omega
                · rw [hlen]
                  split <;> rfl
            · cases ho
          · cases ho
        · cases ho
      · -- an own row
        rename_i id gen off len k hk
        split at ho
        · rename_i k' g els ex hr
          cases hb : (Nat.beq g gen && Nat.beq k k') with
          | false => simp [hb] at ho
          | true =>
            simp only [hb, cond_true] at ho
            rw [Bool.and_eq_true] at hb
            have eg : g = gen := Nat.eq_of_beq_eq_true hb.1
            have ek : k = k' := Nat.eq_of_beq_eq_true hb.2
            subst eg; subst ek
            split at ho
            · rename_i mm h1
              split at ho
              · rename_i q h2
                split at ho
                · rename_i p h3
                  injection ho with ho
                  obtain ⟨gb, C, e', cur, ad, xr, g1, g2, g3, g4, rfl⟩ := sl_row r hx hr
                  have hlC := xr.len
                  obtain ⟨b1, b2, b3, b4, b5, b6⟩ := bounds_run (P := P) (w := w) (b := true) (M := els.length - off) (cap := C - off) hlo hhi hmx (by omega) h1 h2 h3 hno
                  have hqC : q ≤ C - off := by
                    cases hh : hi.isNone with
                    | true => have := b5 hh; omega
                    | false =>
                      have := b4 hh
                      cases hm : mx.isNone with
                      | true => have := b6 hm; omega
                      | false => have := b3 hm; omega
                  refine ⟨_, slice_run hu hk b1, ?_⟩
                  cases hm : mx.isNone with
                  | true =>
                    simp only [hm, cond_true] at ho
                    subst ho
                    simp only [VRel, if_true]
                    refine ⟨gb, C, k, if C - off = p then ad else ad.add (p * k), xr.mp, by omega, ?_, ?_, ?_, ?_⟩
                    · split
                      · exact g2
                      · rw [add_any g3]; exact g2
                    · split
                      · exact g3
                      · exact spot_add g3 _
                    · intro hlt
                      rw [if_neg (by omega), add_any g3, g4 (by omega), Nat.add_mul]
                    · have : C - off - p = C - (off + p) := by omega
                      rw [this]
                      split <;> rfl
                  | false =>
                    simp only [hm, cond_false] at ho
                    cases hpm : Nat.beq p mm with
                    | true =>
                      simp only [hpm, cond_true] at ho
                      subst ho
                      have ep : p = mm := Nat.eq_of_beq_eq_true hpm
                      subst ep
                      have hqp : q = p := by
                        cases hh : hi.isNone with
                        | true => cases mx <;> simp_all
                        | false => have := b4 hh; omega
                      subst hqp
                      simp only [VRel]
                      refine ⟨ad, 0, [], by simp [CL], by simp [allK], fun j c hj => by simp at hj, g3, by simp, by simp, ?_⟩
                      simp
                    | false =>
                      simp only [hpm, cond_false] at ho
                      subst ho
                      simp [VRel, Value.oneCell']
                · cases ho
              · cases ho
            · cases ho
        · cases ho
      · -- a slice over an array within a row
        rename_i id gen i pa o k' off len n k hk
        split at ho
        · rename_i mm h1
          split at ho
          · rename_i q h2
            split at ho
            · rename_i p h3
              cases hb : (Nat.beq k k' && mx.isNone) with
              | false => simp [hb] at ho
              | true =>
                simp only [hb, cond_true, Option.some.injEq] at ho
                subst ho
                rw [Bool.and_eq_true] at hb
                have ek : k = k' := Nat.eq_of_beq_eq_true hb.1
                subst ek
                simp only [VRel] at hx
                obtain ⟨g, C, K, ad, g1, g2, g3, g4, g5, rfl⟩ := hx
                obtain ⟨b1, b2, b3, b4, b5, b6⟩ := bounds_run (P := P) (w := w) (b := true) (M := n - off) (cap := n - off) hlo hhi hmx (Nat.le_refl _) h1 h2 h3 hno
                have hqn : q ≤ n - off := by
                  cases hh : hi.isNone with
                  | true => have := b5 hh; omega
                  | false => have := b4 hh; have := b6 hb.2; omega
                refine ⟨_, slice_run hu hk b1, ?_⟩
                simp only [VRel, hb.2, if_true]
                refine ⟨g, C, K, if n - off = p then ad else ad.add (p * k), g1, by omega, ?_, ?_, ?_, ?_⟩
                · split
                  · exact g3
                  · rw [add_any g4]; exact g3
                · split
                  · exact g4
                  · exact spot_add g4 _
                · intro hlt
                  rw [if_neg (by omega), add_any g4, g5 (by omega), Nat.add_mul]
                  show i * K + o + off * k + p * k = i * K + o + (off * k + p * k)
                  omega
                · have : n - off - p = n - (off + p) := by omega
                  rw [this]
                  split <;> rfl
            · cases ho
          · cases ho
        · cases ho
      · cases ho
    · -- an array
      rename_i n e hu
      split at ho
      · rename_i k hk
        split at ho
        · rename_i q h2
          split at ho
          · rename_i p h3
            cases mxv with
            | some v => simp [ORel] at hmx
            | none =>
              obtain ⟨b1, b2, b3, b4, b5, b6⟩ := bounds_run (P := P) (w := w) (b := false) (len := n) (cap := n) (M := n) (mx := none) (mm := n) hlo hhi hmx (Nat.le_refl _) (by simp [bound]) h2 h3 (by simp)
              have hqn : q ≤ n := by
                cases hh : hi.isNone with
                | true => have := b5 hh; omega
                | false => exact b4 hh
              split at ho
              · rename_i id gen i pa o
                injection ho with ho
                subst ho
                simp only [VRel] at hx
                obtain ⟨g, C, K, g1, rfl⟩ := hx
                refine ⟨_, slice_arr_run hu hk b1, ?_⟩
                simp only [VRel, Option.isNone_none, if_true]
                refine ⟨g, C, K, _, g1, by omega, ?_, ?_, ?_, rfl⟩
                · split
                  · rfl
                  · rw [add_off]
                · split
                  · rfl
                  · rw [add_off]
                · intro hlt
                  rw [if_neg (by omega), add_off]
              · rename_i l
                cases hb : (Nat.beq l.length n && allK k l) with
                | false => simp [hb] at ho
                | true =>
                  simp only [hb, cond_true, Option.some.injEq] at ho
                  subst ho
                  rw [Bool.and_eq_true] at hb
                  have el : l.length = n := Nat.eq_of_beq_eq_true hb.1
                  simp only [VRel] at hx
                  obtain ⟨ad, z, ⟨cs, g1, rfl⟩, g2, g3, g4, rfl⟩ := hx
                  refine ⟨_, slice_arr_run hu hk b1, ?_⟩
                  have hlen : ((l.take q).drop p).length = q - p := by simp; omega
                  simp only [VRel, Option.isNone_none, if_true]
                  refine ⟨_, n - p, _, CL_drop (CL_take g1 hb.2 q) (allK_take q hb.2) p, allK_drop p (allK_take q hb.2), ?_, ?_, by rw [hlen]; omega, by simp, by rw [hlen]⟩
                  · split
                    · have : (cs.take (q * k)).drop (p * k) = [] := List.drop_eq_nil_of_le (by rw [List.length_take]; exact Nat.le_trans (Nat.min_le_left _ _) (Nat.mul_le_mul_right _ (by omega)))
                      rw [this]; intro j c hj; simp at hj
                    · refine FC.sub g3 g4 (fun j c hj => ?_)
                      simp only [List.getElem?_drop, List.getElem?_take] at hj
                      split at hj
                      · simpa [Value.cells] using hj
                      · cases hj
                  · split
                    · exact g4
                    · exact spot_add g4 _
              · cases ho
          · cases ho
        · cases ho
      · cases ho
    · cases ho

end Go.AM
