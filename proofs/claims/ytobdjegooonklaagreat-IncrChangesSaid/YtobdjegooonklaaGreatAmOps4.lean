/- Slice expressions, conversions, and all operations that call nothing, joined. Conditions: none. -/
import Derived.Test.YtobdjegooonklaaGreatAmOps
import Derived.IntWalk
set_option linter.unusedVariables false
set_option linter.unusedSimpArgs false
namespace Go.AM
open Go

variable {F : Fz} {m : Mp} {fr : FR} {a : Act} {h : Heap} {w : World} {P : Program}

def ORel (F : Fz) (m : Mp) : Option AV → Option Value → Prop
  | none, none => True
  | some x, some v => VRel F m x v
  | _, _ => False

theorem bound_some {x : AV} {v : Value} {d most n : Nat} (hb : bound (some x) d most = some n) (hv : VRel F m x v) : ∃ k i, v = .int k i ∧ 0 ≤ i ∧ i ≤ (most : Int) ∧ i.toNat = n := by
  unfold bound at hb
  split at hb
  · rename_i he; cases he
  · rename_i k i he
    injection he with he
    subst he
    cases hd : (decide (0 ≤ i) && decide (i ≤ (most : Int))) with
    | false => simp [hd] at hb
    | true =>
      simp only [hd, cond_true, Option.some.injEq] at hb
      rw [Bool.and_eq_true, decide_eq_true_eq, decide_eq_true_eq] at hd
      simp only [VRel] at hv
      exact ⟨k, i, hv.2, hd.1, hd.2, hb⟩
  · cases hb

theorem sliceBound_run {k : IntKind} {i : Int} {y : Nat} {code : BoundsCode} (h0 : 0 ≤ i) (h1 : i ≤ (y : Int)) (w : World) : (Instr.sliceBound (.int k i) y code).run P w = .ok i.toNat w := by
  simp [-bind_pure_comp, Instr.sliceBound, asIntOf, h0, h1]

theorem bounds_run {b : Bool} {len cap M : Nat} {lo hi mx : Option AV} {lov hiv mxv : Option Value} {p q mm : Nat} (hlo : ORel F m lo lov) (hhi : ORel F m hi hiv) (hmx : ORel F m mx mxv)
    (hM : M ≤ cap) (h1 : bound mx M M = some mm) (h2 : bound hi len mm = some q) (h3 : bound lo 0 q = some p) (hno : (mx.isSome && hi.isNone) = false) :
    (Instr.sliceBounds b len cap lov hiv mxv).run P w = .ok (p, q, if mx.isNone then cap else mm) w ∧ p ≤ q ∧ (mx.isNone = false → mm ≤ M) ∧ (hi.isNone = false → q ≤ mm) ∧ (hi.isNone = true → q = len) ∧ (mx.isNone = true → mm = M) := by
  have hl : p ≤ q ∧ ((lov = none ∧ p = 0) ∨ ∃ k i, lov = some (.int k i) ∧ 0 ≤ i ∧ i ≤ (q : Int) ∧ i.toNat = p) := by
    cases lo with
    | none =>
      cases lov with
      | none => simp [bound] at h3; exact ⟨by omega, .inl ⟨rfl, h3.symm⟩⟩
      | some v => simp [ORel] at hlo
    | some x =>
      cases lov with
      | none => simp [ORel] at hlo
      | some v =>
        simp only [ORel] at hlo
        obtain ⟨k, i, rfl, g0, g1, g2⟩ := bound_some h3 hlo
        exact ⟨by omega, .inr ⟨k, i, rfl, g0, g1, g2⟩⟩
  obtain ⟨hpq, hl⟩ := hl
  cases mx with
  | none =>
    cases mxv with
    | some v => simp [ORel] at hmx
    | none =>
      simp [bound] at h1
      subst h1
      cases hi with
      | none =>
        cases hiv with
        | some v => simp [ORel] at hhi
        | none =>
          simp [bound] at h2
          subst h2
          refine ⟨?_, hpq, by simp, by simp, by simp, by simp⟩
          rcases hl with ⟨rfl, rfl⟩ | ⟨kl, il, rfl, l0, l1, l2⟩
          · simp [-bind_pure_comp, Instr.sliceBounds]
          · simp [-bind_pure_comp, Instr.sliceBounds, sliceBound_run l0 l1, l2]
      | some x =>
        cases hiv with
        | none => simp [ORel] at hhi
        | some v =>
          simp only [ORel] at hhi
          obtain ⟨k, i, rfl, g0, g1, g2⟩ := bound_some h2 hhi
          refine ⟨?_, hpq, by simp, fun _ => by omega, by simp, by simp⟩
          have hs : ∀ c, (Instr.sliceBound (.int k i) cap c).run P w = .ok q w := fun c => by rw [sliceBound_run g0 (by omega), g2]
          rcases hl with ⟨rfl, rfl⟩ | ⟨kl, il, rfl, l0, l1, l2⟩
          · simp [-bind_pure_comp, Instr.sliceBounds, hs]
          · simp [-bind_pure_comp, Instr.sliceBounds, hs, sliceBound_run l0 l1, l2]
  | some xm =>
    cases mxv with
    | none => simp [ORel] at hmx
    | some vm =>
      simp only [ORel] at hmx
      obtain ⟨km, im, rfl, gm0, gm1, gm2⟩ := bound_some h1 hmx
      cases hi with
      | none => simp at hno
      | some x =>
        cases hiv with
        | none => simp [ORel] at hhi
        | some v =>
          simp only [ORel] at hhi
          obtain ⟨k, i, rfl, g0, g1, g2⟩ := bound_some h2 hhi
          refine ⟨?_, hpq, fun _ => by omega, fun _ => by omega, by simp, by simp⟩
          have hm : ∀ c, (Instr.sliceBound (.int km im) cap c).run P w = .ok mm w := fun c => by rw [sliceBound_run gm0 (by omega), gm2]
          have hs : ∀ c, (Instr.sliceBound (.int k i) mm c).run P w = .ok q w := fun c => by rw [sliceBound_run g0 (by omega), g2]
          rcases hl with ⟨rfl, rfl⟩ | ⟨kl, il, rfl, l0, l1, l2⟩
          · simp [-bind_pure_comp, Instr.sliceBounds, hm, hs]
          · simp [-bind_pure_comp, Instr.sliceBounds, hm, hs, sliceBound_run l0 l1, l2]

theorem sliceAt_slice {t e : TypeId} (hu : P.underlying t = some (.slice e)) (x : Value) (lo hi mx : Option Value) (w : World) : (Instr.sliceAt t x lo hi mx).run P w = (Instr.slice t x lo hi mx).run P w := by
  simp [Instr.sliceAt, run_underlying hu]

theorem slice_run {t e : TypeId} {k : Nat} (hu : P.underlying t = some (.slice e)) (hk : szOf P e = some k) {ad : Option Addr} {len cap p q mm : Nat} {lo hi mx : Option Value}
    (hb : (Instr.sliceBounds true len cap lo hi mx).run P w = .ok (p, q, mm) w) :
    (Instr.sliceAt t (.slice ad len cap) lo hi mx).run P w = .ok (.slice (if mm = p then ad else ad.map (·.add (p * k))) (q - p) (mm - p)) w := by
  rw [sliceAt_slice hu]
  simp [-bind_pure_comp, Instr.slice, run_underlying hu, hb, szOf_run hk]

theorem slice_str_run {t : TypeId} (hu : P.underlying t = some .string) {s : ByteArray} {p q mm : Nat} {lo hi : Option Value} (hb : (Instr.sliceBounds false s.size s.size lo hi none).run P w = .ok (p, q, mm) w) :
    (Instr.sliceAt t (.string s) lo hi none).run P w = .ok (.string (s.extract p q)) w := by
  have h1 : (Instr.sliceAt t (.string s) lo hi none).run P w = (Instr.slice t (.string s) lo hi none).run P w := by simp [Instr.sliceAt, run_underlying hu]
  rw [h1]
  simp [-bind_pure_comp, Instr.slice, run_underlying hu, hb]

theorem slice_arr_run {t e : TypeId} {n k : Nat} (hu : P.underlying t = some (.array n e)) (hk : szOf P e = some k) {ad : Addr} {p q mm : Nat} {lo hi : Option Value}
    (hb : (Instr.sliceBounds false n n lo hi none).run P w = .ok (p, q, mm) w) :
    (Instr.sliceAt t (.pointer (some ad)) lo hi none).run P w = .ok (.slice (some (if mm = p then ad else ad.add (p * k))) (q - p) (mm - p)) w := by
  simp [-bind_pure_comp, Instr.sliceAt, run_underlying hu, Instr.sureAddr, hb, szOf_run hk]

theorem sliceE_run (r : Rel F m h w) {t : TypeId} {x y : AV} {lo hi mx : Option AV} {xv : Value} {lov hiv mxv : Option Value} (hx : VRel F m x xv) (hlo : ORel F m lo lov) (hhi : ORel F m hi hiv) (hmx : ORel F m mx mxv)
    (ho : sliceE P h t x lo hi mx = some y) : ∃ v, (Instr.sliceAt t xv lov hiv mxv).run P w = .ok v w ∧ VRel F m y v := by
  unfold sliceE at ho
  cases hno : (mx.isSome && hi.isNone) with
  | true => simp [hno] at ho
  | false =>
    simp only [hno, cond_false] at ho
    split at ho
    · -- a string
      rename_i hu
      split at ho
      · rename_i s
        split at ho
        · rename_i q hq
          split at ho
          · rename_i p hp
            injection ho with ho
            subst ho
            cases mxv with
            | some v => simp [ORel] at hmx
            | none =>
              simp only [VRel] at hx
              obtain ⟨_, rfl⟩ := hx
              obtain ⟨b1, _⟩ := bounds_run (P := P) (w := w) (b := false) hlo hhi hmx (Nat.le_refl s.size) (mm := s.size) (by simp [bound]) hq hp (by simp)
              exact ⟨_, slice_str_run hu b1, by simp [VRel, free]⟩
          · cases ho
        · cases ho
      · cases ho
    · -- a slice
      rename_i e hu
      split at ho
      · -- nil
        rename_i k hk
        split at ho
        · rename_i mm h1
          split at ho
          · rename_i q h2
            split at ho
            · rename_i p h3
              injection ho with ho
              subst ho
              simp only [VRel] at hx
              obtain ⟨_, rfl⟩ := hx
              have h2' : bound hi 0 mm = some q := by
                cases mx with
                | none => simp [bound] at h1; subst h1; exact h2
                | some xm =>
                  cases mxv with
                  | none => simp [ORel] at hmx
                  | some vm =>
                    obtain ⟨_, i, _, g0, g1, g2⟩ := bound_some h1 hmx
                    have : mm = 0 := by omega
                    subst this; exact h2
              obtain ⟨b1, b2, b3, b4, b5, b6⟩ := bounds_run (P := P) (w := w) (b := true) hlo hhi hmx (Nat.le_refl 0) h1 h2' h3 hno
              have hq0 : q = 0 := by
                cases hh : hi.isNone with
                | true => exact b5 hh
                | false =>
                  have := b4 hh
                  cases hm : mx.isNone with
                  | true => have := b6 hm; omega
                  | false => have := b3 hm; omega
              subst hq0
              have hp0 : p = 0 := by omega
              subst hp0
              refine ⟨_, slice_run hu hk b1, ?_⟩
              have hz : (if mx.isNone = true then 0 else mm) = 0 := by
                split
                · rfl
                · rename_i hm; have := b3 (by cases mx <;> simp_all); omega
              rw [hz]
              simp [VRel, free]
            · cases ho
          · cases ho
        · cases ho
      · -- frozen
        rename_i k' full l k hk
        split at ho
        · rename_i mm h1
          split at ho
          · rename_i q h2
            split at ho
            · rename_i p h3
              cases hb : Nat.beq k' k with
              | false => simp [hb] at ho
              | true =>
                simp only [hb, cond_true, Option.some.injEq] at ho
                subst ho
                have ek : k' = k := Nat.eq_of_beq_eq_true hb
                subst ek
                simp only [VRel] at hx
                obtain ⟨ad, cap, cs, g1, g2, g3, g4, g5, g6, rfl⟩ := hx
                obtain ⟨b1, b2, b3, b4, b5, b6⟩ := bounds_run (P := P) (w := w) (b := true) hlo hhi hmx g5 h1 h2 h3 hno
                have hq : q ≤ l.length := by
                  cases hh : hi.isNone with
                  | true => have := b5 hh; omega
                  | false =>
                    have := b4 hh
                    cases hm : mx.isNone with
                    | true => have := b6 hm; omega
                    | false => have := b3 hm; omega
                have hqm : mx.isNone = false → q ≤ mm := fun hm => by
                  cases hh : hi.isNone with
                  | true => cases mx <;> simp_all
                  | false => exact b4 hh
                refine ⟨_, slice_run hu hk b1, ?_⟩
                have hlen : ((l.take q).drop p).length = q - p := by simp; omega
                have hcells : CL F m ((l.take q).drop p) ((cs.take (q * k')).drop (p * k')) := CL_drop (CL_take g1 g2 q) (allK_take q g2) p
                have hfc : ∀ ad' : Addr, (q - p = 0 ∨ ad' = ad.add (p * k')) → FC F ad' ((cs.take (q * k')).drop (p * k')) := by
                  intro ad' hh
                  rcases hh with hh | rfl
                  · have : (cs.take (q * k')).drop (p * k') = [] := List.drop_eq_nil_of_le (by rw [List.length_take]; exact Nat.le_trans (Nat.min_le_left _ _) (Nat.mul_le_mul_right _ (by omega)))
                    rw [this]; intro j c hj; simp at hj
                  · refine FC.sub g3 g4 (fun j c hj => ?_)
                    simp only [List.getElem?_drop, List.getElem?_take] at hj
                    split at hj
                    · exact hj
                    · cases hj
                simp only [VRel]
                generalize hM : (if mx.isNone = true then cap else mm) = MM at b1 ⊢
                have hMq : q ≤ MM := by
                  subst hM
                  split
                  · omega
                  · rename_i hm; exact hqm (by cases mx <;> simp_all)
                refine ⟨if MM = p then ad else ad.add (p * k'), MM - p, _, hcells, allK_drop p (allK_take q g2), hfc _ ?_, ?_, by rw [hlen]; omega, ?_, ?_⟩
                · split
                  · rename_i e; left; omega
                  · right; rfl
                · split
                  · exact g4
                  · exact spot_add g4 _
                · intro hfull
                  rw [hlen]
                  cases hm : mx.isNone with
                  | true =>
                    simp only [hm, cond_true] at hfull
                    rw [Bool.and_eq_true] at hfull
                    have e1 := g6 hfull.1
                    have e2 : q = l.length := Nat.eq_of_beq_eq_true hfull.2
                    simp only [hm, if_true] at hM
                    omega
                  | false =>
                    simp only [hm, cond_false] at hfull
                    have e2 : q = mm := Nat.eq_of_beq_eq_true hfull
                    simp [hm] at hM
                    omega
                · rw [hlen]
                  split <;> rfl
            · cases ho
          · cases ho
        · cases ho
      · -- an own row
        rename_i id gen off len k hk
        split at ho
        · rename_i k' g els ex hr
          cases hb : (Nat.beq g gen && Nat.beq k k') with
          | false => simp [hb] at ho
          | true =>
            simp only [hb, cond_true] at ho
            rw [Bool.and_eq_true] at hb
            have eg : g = gen := Nat.eq_of_beq_eq_true hb.1
            have ek : k = k' := Nat.eq_of_beq_eq_true hb.2
            subst eg; subst ek
            split at ho
            · rename_i mm h1
              split at ho
              · rename_i q h2
                split at ho
                · rename_i p h3
                  injection ho with ho
                  obtain ⟨gb, C, e', cur, ad, xr, g1, g2, g3, g4, rfl⟩ := sl_row r hx hr
                  have hlC := xr.len
                  obtain ⟨b1, b2, b3, b4, b5, b6⟩ := bounds_run (P := P) (w := w) (b := true) (M := els.length - off) (cap := C - off) hlo hhi hmx (by omega) h1 h2 h3 hno
                  have hqC : q ≤ C - off := by
                    cases hh : hi.isNone with
                    | true => have := b5 hh; omega
                    | false =>
                      have := b4 hh
                      cases hm : mx.isNone with
                      | true => have := b6 hm; omega
                      | false => have := b3 hm; omega
                  refine ⟨_, slice_run hu hk b1, ?_⟩
                  cases hm : mx.isNone with
                  | true =>
                    simp only [hm, cond_true] at ho
                    subst ho
                    simp only [VRel, if_true]
                    refine ⟨gb, C, k, if C - off = p then ad else ad.add (p * k), xr.mp, by omega, ?_, ?_, ?_, ?_⟩
                    · split
                      · exact g2
                      · rw [add_any g3]; exact g2
                    · split
                      · exact g3
                      · exact spot_add g3 _
                    · intro hlt
                      rw [if_neg (by omega), add_any g3, g4 (by omega), Nat.add_mul]
                    · have : C - off - p = C - (off + p) := by omega
                      rw [this]
                      split <;> rfl
                  | false =>
                    simp only [hm, cond_false] at ho
                    cases hpm : Nat.beq p mm with
                    | true =>
                      simp only [hpm, cond_true] at ho
                      subst ho
                      have ep : p = mm := Nat.eq_of_beq_eq_true hpm
                      subst ep
                      have hqp : q = p := by
                        cases hh : hi.isNone with
                        | true => cases mx <;> simp_all
                        | false => have := b4 hh; omega
                      subst hqp
                      simp only [VRel]
                      refine ⟨ad, 0, [], by simp [CL], by simp [allK], fun j c hj => by simp at hj, g3, by simp, by simp, ?_⟩
                      simp
                    | false =>
                      simp only [hpm, cond_false] at ho
                      subst ho
                      simp [VRel, Value.oneCell']
                · cases ho
              · cases ho
            · cases ho
        · cases ho
      · -- a slice over an array within a row
        rename_i id gen i pa o k' off len n k hk
        split at ho
        · rename_i mm h1
          split at ho
          · rename_i q h2
            split at ho
            · rename_i p h3
              cases hb : (Nat.beq k k' && mx.isNone) with
              | false => simp [hb] at ho
              | true =>
                simp only [hb, cond_true, Option.some.injEq] at ho
                subst ho
                rw [Bool.and_eq_true] at hb
                have ek : k = k' := Nat.eq_of_beq_eq_true hb.1
                subst ek
                simp only [VRel] at hx
                obtain ⟨g, C, K, ad, g1, g2, g3, g4, g5, rfl⟩ := hx
                obtain ⟨b1, b2, b3, b4, b5, b6⟩ := bounds_run (P := P) (w := w) (b := true) (M := n - off) (cap := n - off) hlo hhi hmx (Nat.le_refl _) h1 h2 h3 hno
                have hqn : q ≤ n - off := by
                  cases hh : hi.isNone with
                  | true => have := b5 hh; omega
                  | false => have := b4 hh; have := b6 hb.2; omega
                refine ⟨_, slice_run hu hk b1, ?_⟩
                simp only [VRel, hb.2, if_true]
                refine ⟨g, C, K, if n - off = p then ad else ad.add (p * k), g1, by omega, ?_, ?_, ?_, ?_⟩
                · split
                  · exact g3
                  · rw [add_any g4]; exact g3
                · split
                  · exact g4
                  · exact spot_add g4 _
                · intro hlt
                  rw [if_neg (by omega), add_any g4, g5 (by omega), Nat.add_mul]
                  show i * K + o + off * k + p * k = i * K + o + (off * k + p * k)
                  omega
                · have : n - off - p = n - (off + p) := by omega
                  rw [this]
                  split <;> rfl
            · cases ho
          · cases ho
        · cases ho
      · cases ho
    · -- an array
      rename_i n e hu
      split at ho
      · rename_i k hk
        split at ho
        · rename_i q h2
          split at ho
          · rename_i p h3
            cases mxv with
            | some v => simp [ORel] at hmx
            | none =>
              obtain ⟨b1, b2, b3, b4, b5, b6⟩ := bounds_run (P := P) (w := w) (b := false) (len := n) (cap := n) (M := n) (mx := none) (mm := n) hlo hhi hmx (Nat.le_refl _) (by simp [bound]) h2 h3 (by simp)
              have hqn : q ≤ n := by
                cases hh : hi.isNone with
                | true => have := b5 hh; omega
                | false => exact b4 hh
              split at ho
              · rename_i id gen i pa o
                injection ho with ho
                subst ho
                simp only [VRel] at hx
                obtain ⟨g, C, K, g1, rfl⟩ := hx
                refine ⟨_, slice_arr_run hu hk b1, ?_⟩
                simp only [VRel, Option.isNone_none, if_true]
                refine ⟨g, C, K, _, g1, by omega, ?_, ?_, ?_, rfl⟩
                · split
                  · rfl
                  · rw [add_off]
                · split
                  · rfl
                  · rw [add_off]
                · intro hlt
                  rw [if_neg (by omega), add_off]
              · rename_i l
                cases hb : (Nat.beq l.length n && allK k l) with
                | false => simp [hb] at ho
                | true =>
                  simp only [hb, cond_true, Option.some.injEq] at ho
                  subst ho
                  rw [Bool.and_eq_true] at hb
                  have el : l.length = n := Nat.eq_of_beq_eq_true hb.1
                  simp only [VRel] at hx
                  obtain ⟨ad, z, ⟨cs, g1, rfl⟩, g2, g3, g4, rfl⟩ := hx
                  refine ⟨_, slice_arr_run hu hk b1, ?_⟩
                  have hlen : ((l.take q).drop p).length = q - p := by simp; omega
                  simp only [VRel, Option.isNone_none, if_true]
                  refine ⟨_, n - p, _, CL_drop (CL_take g1 hb.2 q) (allK_take q hb.2) p, allK_drop p (allK_take q hb.2), ?_, ?_, by rw [hlen]; omega, by simp, by rw [hlen]⟩
                  · split
                    · have : (cs.take (q * k)).drop (p * k) = [] := List.drop_eq_nil_of_le (by rw [List.length_take]; exact Nat.le_trans (Nat.min_le_left _ _) (Nat.mul_le_mul_right _ (by omega)))
                      rw [this]; intro j c hj; simp at hj
                    · refine FC.sub g3 g4 (fun j c hj => ?_)
                      simp only [List.getElem?_drop, List.getElem?_take] at hj
                      split at hj
                      · simpa [Value.cells] using hj
                      · cases hj
                  · split
                    · exact g4
                    · exact spot_add g4 _
              · cases ho
          · cases ho
        · cases ho
      · cases ho
    · cases ho

end Go.AM

set_option linter.unusedVariables false
set_option linter.unusedSimpArgs false
namespace Go.AM
open Go

variable {F : Fz} {m : Mp} {fr : FR} {a : Act} {h : Heap} {w : World} {P : Program}

def Fz.add (F : Fz) (g : Nat) (o : Obj) : Fz := fun b => if b = g then some o else F b

theorem Rel.none_at {g : Nat} (r : Rel F m h w) (hg : w.heap.size ≤ g) : F g = none := by
  cases hb : F g with
  | none => rfl
  | some o =>
    have := (Array.getElem?_eq_some_iff.1 (r.fz _ _ hb)).1
    omega

/-- A new block that is never written. -/
theorem Rel.frozenBlock (r : Rel F m h w) (o : Obj) : Rel (Fz.add F w.heap.size o) m h (w.alloc o) ∧ Ext F m (Fz.add F w.heap.size o) m := by
  have hne : ∀ b x, w.heap[b]? = some x → b ≠ w.heap.size := fun b x hb => by
    have := (Array.getElem?_eq_some_iff.1 hb).1
    omega
  have he : Ext F m (Fz.add F w.heap.size o) m := ⟨fun b x hb => by unfold Fz.add; rw [if_neg (hne b x (r.fz b x hb))]; exact hb, fun _ _ _ hx => hx, fun _ _ hx => hx⟩
  refine ⟨⟨fun b x hb => ?_, fun id k gen els ex hi => ?_, fun id es c hi => ?_, r.fresh, r.freshM, r.inj, r.injM⟩, he⟩
  · unfold Fz.add at hb
    split at hb
    · rename_i e
      injection hb with hb
      subst e; subst hb
      exact heap_alloc_self w o
    · exact heap_alloc_old w o (r.fz b x hb)
  · obtain ⟨g, C, t, cur, x⟩ := r.row id k gen els ex hi
    refine ⟨g, C, t, cur, ⟨x.mp, x.pos, heap_alloc_old w o x.heap, ?_, x.size, x.len, x.exact, x.ty, x.most, x.all, x.cells.mono he, x.gens⟩⟩
    unfold Fz.add
    rw [if_neg (hne _ _ x.heap)]
    exact x.own
  · obtain ⟨g, ents, x⟩ := r.map id es c hi
    refine ⟨g, ents, ⟨x.mp, heap_alloc_old w o x.heap, ?_, x.ents.mono he⟩⟩
    unfold Fz.add
    rw [if_neg (hne _ _ x.heap)]
    exact x.own

/-- A new map. -/
theorem Rel.newMap (r : Rel F m h w) : Rel F (m.addM h.length w.heap.size) (h ++ [.map [] 0]) (w.alloc (.map #[] 0)) ∧ Ext F m F (m.addM h.length w.heap.size) := by
  have he : Ext F m F (m.addM h.length w.heap.size) := Ext.addM r.freshM_none
  have hF : F w.heap.size = none := r.none_at (Nat.le_refl _)
  have hold : ∀ i y, i < h.length → (m.addM h.length w.heap.size).map i = y → m.map i = y := fun i y hi hy => by
    simp only [Mp.addM] at hy
    rw [if_neg (by omega)] at hy
    exact hy
  refine ⟨⟨fun b x hb => heap_alloc_old w _ (r.fz b x hb), fun id k gen els ex hi => ?_, fun id es c hi => ?_, fun i gn hn => ?_, fun i hn => ?_, ?_, ?_⟩, he⟩
  · rcases getElem?_push_row hi with ⟨rfl, h2⟩ | ⟨hlt, h2⟩
    · cases h2
    · obtain ⟨g, C, t, cur, x⟩ := r.row id k gen els ex h2
      exact ⟨g, C, t, cur, ⟨x.mp, x.pos, heap_alloc_old w _ x.heap, x.own, x.size, x.len, x.exact, x.ty, x.most, x.all, x.cells.mono he, x.gens⟩⟩
  · rcases getElem?_push_row hi with ⟨rfl, h2⟩ | ⟨hlt, h2⟩
    · injection h2 with a1 a2
      subst a1; subst a2
      exact ⟨w.heap.size, #[], ⟨by simp [Mp.addM], heap_alloc_self w _, hF, by simp [EntR]⟩⟩
    · obtain ⟨g, ents, x⟩ := r.map id es c h2
      exact ⟨g, ents, ⟨he.map _ _ x.mp, heap_alloc_old w _ x.heap, x.own, x.ents.mono he⟩⟩
  · have := r.fresh i gn hn
    simp; omega
  · by_cases e : i = h.length
    · simp [e]
    · simp only [Mp.addM, if_neg e] at hn
      have := r.freshM i hn
      simp; omega
  · intro id1 id2 k1 gen1 els1 ex1 k2 gen2 els2 ex2 gg C1 C2 r1 r2 h1 h2 h3 h4
    rcases getElem?_push_row h1 with ⟨rfl, e1⟩ | ⟨hl1, e1⟩
    · cases e1
    · rcases getElem?_push_row h2 with ⟨rfl, e2⟩ | ⟨hl2, e2⟩
      · cases e2
      · exact r.inj _ _ _ _ _ _ _ _ _ _ _ _ _ _ _ e1 e2 h3 h4
  · intro id1 id2 es1 c1 es2 c2 gg h1 h2 h3 h4
    rcases getElem?_push_row h1 with ⟨rfl, e1⟩ | ⟨hl1, e1⟩ <;> rcases getElem?_push_row h2 with ⟨rfl, e2⟩ | ⟨hl2, e2⟩
    · rfl
    · obtain ⟨g, ents, x⟩ := r.map _ _ _ e2
      have h4' := hold _ _ hl2 h4
      have h5 := x.mp
      rw [h4'] at h5
      injection h5 with h5
      simp [Mp.addM] at h3
      have := (Array.getElem?_eq_some_iff.1 x.heap).1
      omega
    · obtain ⟨g, ents, x⟩ := r.map _ _ _ e1
      have h3' := hold _ _ hl1 h3
      have h5 := x.mp
      rw [h3'] at h5
      injection h5 with h5
      simp [Mp.addM] at h4
      have := (Array.getElem?_eq_some_iff.1 x.heap).1
      omega
    · exact r.injM _ _ _ _ _ _ _ e1 e2 (hold _ _ hl1 h3) (hold _ _ hl2 h4)

/-! ### Strings and bytes -/
theorem CL_bytes : ∀ l : List UInt8, CL F m (ofBytes l) (l.map fun b => Value.int .u8 b.toNat)
  | [] => by simp [ofBytes, CL]
  | b :: l => by
    simp only [ofBytes, List.map_cons, CL]
    exact ⟨.int .u8 b.toNat, _, by simp [VRel, free], rfl, CL_bytes l, by simp [Value.cells]⟩

theorem allK_bytes : ∀ l : List UInt8, allK 1 (ofBytes l) = true
  | [] => rfl
  | b :: l => by
    have := allK_bytes l
    simp only [ofBytes] at this
    simp [ofBytes, allK, leafs, this]

theorem freeze_alloc (w : World) (c : Array Value) (e : TypeId) (n : Nat) : (w.alloc (.cells c e)).freeze ⟨w.heap.size, n, none⟩ 1 = w.alloc (.cells c e (n, n + 1)) := by
  unfold World.freeze World.alloc
  simp only [Nat.one_ne_zero, if_false]
  congr 1
  apply Array.ext
  · simp
  · intro i h1 h2
    simp only [Array.getElem_modify, Array.getElem_push]
    by_cases hi : i < w.heap.size
    · simp [hi, show ¬ w.heap.size = i by omega]
    · have : i = w.heap.size := by simp at h2; omega
      subst this
      simp

theorem toBytes_run (r : Rel F m h w) {s t e : TypeId} {b : ByteArray} (hs : P.underlying s = some .string) (ht : P.underlying t = some (.slice e)) (he : P.underlying e = some (.int .u8)) :
    ∃ v w' F', (convert s t (.string b)).run P w = .ok v w' ∧ Ext F m F' m ∧ VRel F' m (.lit 1 false (ofBytes b.data.toList)) v ∧ Rel F' m h w' ∧ Same w w' := by
  have hcap := grownCap_ge w b.size 0 e
  generalize hC : grownCap w b.size 0 e = C at hcap
  let cells : Array Value := (b.data.map fun x => Value.int .u8 x.toNat) ++ Array.replicate (C - b.size) (.int .u8 0)
  obtain ⟨r', e'⟩ := (r.of_heap (w' := w.drew) rfl).frozenBlock (.cells cells e (cells.size, cells.size + 1))
  refine ⟨.slice (some ⟨w.heap.size, 0, none⟩) b.size C, w.drew.alloc (.cells cells e (cells.size, cells.size + 1)), _, ?_, e', ?_, r', ⟨rfl, rfl, rfl, by simp, Nat.le_succ _⟩⟩
  · have h1 : (convert s t (.string b)).run P w = (Conv.stringToBytes e b).run P w := by
      simp [-bind_pure_comp, convert, run_underlying hs, run_underlying ht, run_underlying he]
    rw [h1]
    have hch : (choose (.appendCap b.size 0 e)).run P w = .ok C w.drew := by
      rw [← hC]; simp [grownCap, Question.forced]
    have hsh : (w.drew.alloc (.cells cells e)).shape? w.heap.size = some (e, cells.size) := by
      have := heap_alloc_self w.drew (.cells cells e)
      simp only [World.shape?]
      rw [show w.heap.size = w.drew.heap.size from rfl, this]
    have hfz := freeze_alloc w.drew cells e cells.size
    simp only [Conv.stringToBytes, Sem.run_bind, hch, Result.andThen_ok, Go.newRow, run_newObj, Sem.run_pure, markStringish, run_shape, World.alloc_eq]
    rw [show (w.drew.alloc (.cells ((b.data.map fun x => Value.int .u8 x.toNat) ++ Array.replicate (C - b.size) (.int .u8 0)) e)).shape? w.drew.heap.size = some (e, cells.size) from hsh]
    simp only [run_freeze, Result.andThen_ok, Sem.run_bind, Sem.run_pure]
    exact congrArg _ hfz
  · simp only [VRel]
    refine ⟨⟨w.heap.size, 0, none⟩, C, _, CL_bytes _, allK_bytes _, fun j v hj => ?_, rfl, by simp [ofBytes]; exact hcap, by simp, by simp [ofBytes]⟩
    refine ⟨cells, e, (cells.size, cells.size + 1), by simp [Fz.add], ?_⟩
    have hjl := lt_of_getElem? hj
    simp only [List.length_map] at hjl
    simp only [Nat.zero_add, cells]
    rw [Array.getElem?_append_left (by simpa using hjl)]
    simpa using hj

theorem bytesL_rel : ∀ {l : List AV} {bs : List UInt8} {cs : List Value}, bytesL l = some bs → CL F m l cs →
    ∃ xs : List Int, cs = xs.map (Value.int .u8) ∧ bs = xs.map (fun n => UInt8.ofNat n.toNat) ∧ xs.length = l.length
  | [], bs, cs, hb, hc => by
    simp only [CL] at hc
    simp only [bytesL, Option.some.injEq] at hb
    subst hb; subst hc
    exact ⟨[], rfl, rfl, rfl⟩
  | x :: l, bs, cs, hb, hc => by
    simp only [CL] at hc
    obtain ⟨y, ds, h1, h2, h3, rfl⟩ := hc
    simp only [bytesL] at hb
    cases hx : byteOf? x with
    | none => simp [hx] at hb
    | some b0 =>
      cases hl : bytesL l with
      | none => simp [hx, hl] at hb
      | some bs' =>
        simp only [hx, hl, Option.some.injEq] at hb
        subst hb
        obtain ⟨xs, g1, g2, g3⟩ := bytesL_rel hl h3
        unfold byteOf? at hx
        split at hx
        · rename_i n
          injection hx with hx
          subst hx
          simp only [VRel] at h1
          obtain ⟨_, rfl⟩ := h1
          exact ⟨n :: xs, by simp [Value.cells, g1], by simp [g2], by simp [g3]⟩
        · cases hx

theorem strOf_els (r : Rel F m h w) {x : AV} {b : ByteArray} {v : Value} {l : List AV} {k : Nat} (he : elsOf h x = some (k, l)) (hs : strOf h x = some b) (hv : VRel F m x v) :
    ∃ ad cap xs, v = .slice (some ad) l.length cap ∧ ad.spot = none ∧ (xs : List Int).length = l.length ∧ b = strOfNums xs ∧ (∀ i, i < l.length → w.cell? ⟨ad.block, ad.off + i, none⟩ = some (.int .u8 (xs.getD i 0))) := by
  have hs' : (bif Nat.beq k 1 then match bytesL l with | some bs => some (⟨bs.toArray⟩ : ByteArray) | none => none else none) = some b := by
    cases x <;> first | (simp [elsOf] at he; done) | (simp only [strOf, he] at hs; exact hs)
  obtain ⟨ad, cap, cs, els⟩ := elsOf_rel r he hv
  cases hk : Nat.beq k 1 with
  | false => simp [hk] at hs'
  | true =>
    simp only [hk, cond_true] at hs'
    cases hb : bytesL l with
    | none => simp [hb] at hs'
    | some bs =>
      simp only [hb, Option.some.injEq] at hs'
      subst hs'
      obtain ⟨xs, g1, g2, g3⟩ := bytesL_rel hb els.cells
      refine ⟨ad, cap, xs, els.val, els.spot, g3, by rw [g2]; rfl, fun i hi => ?_⟩
      have := els.mem i (.int .u8 (xs.getD i 0)) (by rw [g1]; simp [List.getElem?_eq_getElem (show i < xs.length by omega), List.getD_eq_getElem?_getD])
      rwa [add_any els.spot] at this

theorem toString_run (r : Rel F m h w) {s t e : TypeId} {x : AV} {b : ByteArray} {v : Value} (hs : P.underlying s = some (.slice e)) (ht : P.underlying t = some .string) (he : P.underlying e = some (.int .u8))
    (hb : strOf h x = some b) (hv : VRel F m x v) : (convert s t v).run P w = .ok (.string b) w := by
  cases hx : elsOf h x with
  | some q =>
    obtain ⟨k, l⟩ := q
    obtain ⟨ad, cap, xs, rfl, hsp, g3, rfl, hm⟩ := strOf_els r hx hb hv
    obtain ⟨bl, o, s0⟩ := ad
    simp only at hsp
    subst hsp
    exact run_convert_bytes_arg w s e hs he bl o l.length cap xs g3 hm t ht
  | none =>
    cases x with
    | v y =>
      simp only [VRel] at hv
      obtain ⟨_, rfl⟩ := hv
      unfold strOf at hb
      split at hb
      · rename_i heq
        injection heq with heq
        subst heq
        injection hb with hb
        subst hb
        exact run_convert_bytes_nil w s e hs he 0 0 t ht
      · rename_i s0 heq
        injection heq with heq
        subst heq
        injection hb with hb
        subst hb
        simp [-bind_pure_comp, convert, run_underlying hs, run_underlying ht]
      · simp [hx] at hb
    | _ => simp [strOf, hx] at hb

/-! ### Rows made -/
theorem buildSlice_base {E : Env} (hE : E.ZerosOK) {e : TypeId} {len k : Nat} {zs : List AV} (hk : szOf E.P e = some k) (h1 : 1 ≤ k)
    (hz : baseE E e len k = some zs) (w : World) :
    ∃ zc : Array Value, ((len * k = 0 ∧ zc = #[]) ∨ (len * k ≠ 0 ∧ ∃ v, (zeroValue e).run E.P w = .ok v w ∧ zc = v.cells)) ∧
      CL F m zs ((Array.range (len * k)).map (zc[· % zc.size]!)).toList ∧ zs.length = len ∧ allK k zs = true := by
  unfold baseE at hz
  cases hl : Nat.beq len 0 with
  | true =>
    have hl0 : len = 0 := Nat.eq_of_beq_eq_true hl
    subst hl0
    simp at hz
    subst hz
    exact ⟨#[], .inl ⟨by simp, rfl⟩, by simp [CL], rfl, rfl⟩
  | false =>
    have hl0 : len ≠ 0 := fun e => by subst e; simp at hl
    simp only [hl, cond_false] at hz
    cases hz0 : E.zero e with
    | none => simp [hz0] at hz
    | some z =>
      simp only [hz0] at hz
      cases hb : Nat.beq (leafs z) k with
      | false => simp [hb] at hz
      | true =>
        simp only [hb, cond_true, Option.some.injEq] at hz
        subst hz
        have hkz : leafs z = k := Nat.eq_of_beq_eq_true hb
        obtain ⟨v, v1, v2, v3, v4⟩ := zero_run (F := F) (m := m) hE hz0 w
        refine ⟨v.cells, ?_, ?_, by simp, allK_replicate hkz⟩
        · have hpos : len * k ≠ 0 := fun e0 => by rcases Nat.mul_eq_zero.1 e0 with h | h <;> omega
          exact .inr ⟨hpos, v, v1, rfl⟩
        · rw [range_mod v.cells k (by rw [v4, hkz]) (by omega)]
          exact CL_replicate v2 v3 len

theorem len_of_CL {l : List AV} {cs : List Value} {k : Nat} (hc : CL F m l cs) (hk : allK k l = true) : cs.length = l.length * k := by rw [CL.size _ _ hc, allK_leafs hk]

theorem allK_putL {k : Nat} {y : AV} : ∀ {z z' : List AV} {i off : Nat}, allK k z = true → putL z i [] off y = some z' → allK k z' = true ∧ z'.length = z.length
  | [], z', i, off, _, hp => by simp [putL] at hp
  | x :: l, z', 0, off, hk, hp => by
    simp [allK] at hk
    simp only [putL] at hp
    cases hput : put x [] off y with
    | none => simp [hput] at hp
    | some x' =>
      simp only [hput, Option.some.injEq] at hp
      subst hp
      have : (bif Nat.beq off 0 && Nat.beq (leafs x) (leafs y) then some y else none) = some x' := by cases x <;> simpa [put] using hput
      cases hb : (Nat.beq off 0 && Nat.beq (leafs x) (leafs y)) with
      | false => simp [hb] at this
      | true =>
        simp only [hb, cond_true, Option.some.injEq] at this
        subst this
        rw [Bool.and_eq_true] at hb
        have : leafs x = leafs y := Nat.eq_of_beq_eq_true hb.2
        simp [allK, hk.2, ← this, hk.1]
  | x :: l, z', i + 1, off, hk, hp => by
    simp [allK] at hk
    simp only [putL] at hp
    cases hb : Nat.ble (leafs x) off with
    | false => simp [hb] at hp
    | true =>
      simp only [hb, cond_true] at hp
      cases hput : putL l i [] (off - leafs x) y with
      | none => simp [hput] at hp
      | some l' =>
        simp only [hput, Option.some.injEq] at hp
        subst hp
        obtain ⟨g1, g2⟩ := allK_putL hk.2 hput
        simp [allK, hk.1, g1, g2]

theorem allK_setParts {k : Nat} {pl : Nat → Option (Nat × Nat)} : ∀ {qs : List (Nat × AV)} {z z' : List AV}, allK k z = true → setParts pl z qs = some z' → allK k z' = true ∧ z'.length = z.length
  | [], z, z', hk, hs => by
    simp only [setParts, Option.some.injEq] at hs
    subst hs
    exact ⟨hk, rfl⟩
  | (i, y) :: qs, z, z', hk, hs => by
    simp only [setParts] at hs
    cases hpl : pl i with
    | none => simp [hpl] at hs
    | some q =>
      obtain ⟨off, sz⟩ := q
      simp only [hpl] at hs
      cases hb : (Nat.beq (leafs y) sz && !isTupA y) with
      | false => simp [hb] at hs
      | true =>
        simp only [hb, cond_true] at hs
        cases hput : putL z i [] off y with
        | none => simp [hput] at hs
        | some z1 =>
          simp only [hput] at hs
          obtain ⟨g1, g2⟩ := allK_putL hk hput
          obtain ⟨g3, g4⟩ := allK_setParts g1 hs
          exact ⟨g3, by rw [g4, g2]⟩

theorem buildSlice_run {E : Env} (hE : E.ZerosOK) (r : Rel F m h w) {t e : TypeId} {len k : Nat} {zs l : List AV} {qs : List (Nat × AV)} {ps : Array (Nat × Value)} (ht : E.P.underlying t = some (.slice e)) (hk : szOf E.P e = some k)
    (hz : baseE E e len k = some zs)
    (hsp : setParts (fun i => some (i * k, k)) zs qs = some l) (hb : (Nat.ble (len * k) 16777216 && Nat.ble 1 k) = true) (hp : PL F m qs ps.toList) :
    ∃ cs : List Value, (Instr.buildSlice t len ps).run E.P w = .ok (.slice (some ⟨w.heap.size, 0, none⟩) len len) (w.alloc (.cells cs.toArray e)) ∧ CL F m l cs ∧ allK k l = true ∧ l.length = len ∧ 1 ≤ k ∧ len * k ≤ 16777216 := by
  rw [Bool.and_eq_true] at hb
  have hb1 : len * k ≤ 16777216 := Nat.le_of_ble_eq_true hb.1
  have hb2 : 1 ≤ k := Nat.le_of_ble_eq_true hb.2
  obtain ⟨zc, z1, z2, z3, z4⟩ := buildSlice_base (F := F) (m := m) hE hk hb2 hz w
  obtain ⟨cs, f1, f2⟩ := fill_run hsp z2 hp
  obtain ⟨g1, g2⟩ := allK_setParts z4 hsp
  refine ⟨cs, ?_, f2, g1, by rw [g2, z3], hb2, hb1⟩
  rw [Array.toArray_toList] at f1
  have hno : ¬ len * k > 2 ^ 24 := by omega
  unfold Instr.buildSlice
  simp only [Sem.run_bind, run_underlying ht, Result.andThen_ok, szOf_run hk]
  rw [if_neg hno]
  rcases z1 with ⟨hlk, rfl⟩ | ⟨hlk, v, hv, rfl⟩
  · rw [if_pos hlk]
    simp only [Sem.run_bind, Sem.run_pure, Result.andThen_ok, f1, Go.newRow, run_newObj, World.alloc_eq]
  · rw [if_neg hlk]
    simp only [Sem.run_bind, hv, Sem.run_pure, Result.andThen_ok, f1, Go.newRow, run_newObj, World.alloc_eq]

theorem makeSlice_run {E : Env} (hE : E.ZerosOK) (r : Rel F m h w) {t e : TypeId} {z : AV} {kn kc : IntKind} {n : Int} (ht : E.P.underlying t = some (.slice e)) (hz : E.zero e = some z) (h0 : 0 ≤ n)
    (hby : n * (((E.P.info? e).map (·.bytes)).getD 0 : Nat) ≤ 140737488355328) (h1 : 1 ≤ leafs z) (hn : n ≤ 140737488355328) (hsi0 : szOf E.P e = some (leafs z)) :
    ∃ cs : List Value, (Instr.makeSlice t (.int kn n) (.int kc n)).run E.P w = .ok (.slice (some ⟨w.heap.size, 0, none⟩) n.toNat n.toNat) (w.alloc (.cells cs.toArray e)) ∧ CL F m (List.replicate n.toNat z) cs := by
  obtain ⟨i, v, i1, i2, i3⟩ := hE e z hz
  obtain ⟨g1, g2⟩ := toV_self (F := F) (m := m) z v i3
  have hsz := VRel.size z v g1 g2
  have hw : IntKind.i64.wrap n = n := IntWalk.i64_in n (by omega)
  simp only [i1, Option.map_some, Option.getD_some] at hby
  have hzr : (zeroValue e).run E.P w = .ok v w := by simp [zeroValue, typeInfo, i1, i2]
  have hsi : i.size = leafs z := by simpa [szOf, i1] using hsi0
  have hti : (typeInfo e).run E.P w = .ok i w := by simp [typeInfo, i1]
  have hcomm : (i.bytes : Int) * n = n * (i.bytes : Int) := Int.mul_comm _ _
  have hbig : (decide (n < 0) || decide ((i.bytes : Int) * n > 2 ^ 48)) = false := by
    rw [hcomm]
    have : ¬ n * (i.bytes : Int) > 2 ^ 48 := by omega
    simp [this]; omega
  have hc : ((decide (n < 0) || decide ((i.bytes : Int) * n > 2 ^ 48)) || decide (n < 0) || decide (n > n)) = false := by
    rw [hbig]; simp; omega
  have hsize : (sizeOf e).run E.P w = .ok i.size w := by simp [sizeOf, typeInfo, i1]
  have hL : (List.replicate n.toNat v.cells.toList).flatten.length = n.toNat * leafs z := by simp [hsz]
  refine ⟨(List.replicate n.toNat v.cells.toList).flatten, ?_, CL_replicate g1 g2 n.toNat⟩
  have hcells : i.size = leafs z → ∀ zc : Array Value, ((n.toNat * i.size = 0 ∧ zc = #[]) ∨ (n.toNat * i.size ≠ 0 ∧ zc = v.cells)) → (Array.range (n.toNat * i.size)).map (zc[· % zc.size]!) = (List.replicate n.toNat v.cells.toList).flatten.toArray := by
    intro hi zc hzc
    apply Array.toList_inj.1
    rcases hzc with ⟨h2, rfl⟩ | ⟨h2, rfl⟩
    · have hn0 : n.toNat = 0 := by rcases Nat.mul_eq_zero.1 h2 with h | h <;> omega
      simp [hn0]
    · rw [hi]
      exact range_mod v.cells (leafs z) hsz (by omega) n.toNat
  unfold Instr.makeSlice
  simp only [Sem.run_bind, run_underlying ht, Result.andThen_ok, asInt, asIntOf, Sem.run_pure, hti, hw]
  rw [if_neg (by rw [hc]; simp)]
  simp only [Sem.run_bind, run_askRoom, Result.andThen_ok, hsize]
  by_cases h0 : n.toNat * i.size = 0
  · rw [if_pos h0]
    simp only [Sem.run_bind, Sem.run_pure, Result.andThen_ok, Go.newRow, run_newObj, World.alloc_eq, hcells hsi #[] (.inl ⟨h0, rfl⟩)]
  · rw [if_neg h0]
    simp only [Sem.run_bind, hzr, Sem.run_pure, Result.andThen_ok, Go.newRow, run_newObj, World.alloc_eq, hcells hsi v.cells (.inr ⟨h0, rfl⟩)]

/-! ### Pointers told as others -/
theorem placeE_rel (r : Rel F m h w) {id gen i o : Nat} {p : List Nat} {v : Value} {e : TypeId} {c off : Nat} (hp : placeE P h id gen i o = some (e, c, off)) (hv : VRel F m (.ptr id gen i p o) v) :
    ∃ g C cur fz, v = .pointer (some ⟨g, off, none⟩) ∧ w.heap[g]? = some (.cells cur e fz) ∧ c ≤ C ∧ cur.size = C * P.cellsOf e ∧ 0 < P.cellsOf e ∧ off < cur.size := by
  unfold placeE at hp
  split at hp
  · rename_i k g0 els ex hr
    cases hb : (Nat.beq g0 gen && Nat.blt i els.length && Nat.blt o k && Nat.beq (P.cellsOf ex.ty) k) with
    | false => simp [hb] at hp
    | true =>
      simp only [hb, cond_true, Option.some.injEq, Prod.mk.injEq] at hp
      obtain ⟨rfl, rfl, rfl⟩ := hp
      simp only [Bool.and_eq_true] at hb
      obtain ⟨⟨⟨b1, b2⟩, b3⟩, b4⟩ := hb
      have e1 := Nat.eq_of_beq_eq_true b1
      subst e1
      have hi : i < els.length := by simpa [Nat.blt_eq] using b2
      have ho : o < k := by simpa [Nat.blt_eq] using b3
      have hk := Nat.eq_of_beq_eq_true b4
      simp only [VRel] at hv
      obtain ⟨g, C, k1, h1, rfl⟩ := hv
      obtain ⟨g2, C2, e2, cur, xr⟩ := r.row _ _ _ _ _ hr
      have hm := xr.mp
      rw [h1] at hm
      injection hm with hm
      injection hm with hm1 hm2
      injection hm2 with hm2 hm3
      subst hm1; subst hm2; subst hm3
      have hl := xr.len
      have hmul : (i + 1) * k1 ≤ C * k1 := Nat.mul_le_mul_right _ (by omega)
      rw [Nat.add_mul, Nat.one_mul] at hmul
      refine ⟨g, C, cur, (0, 0), rfl, by rw [← xr.ty]; exact xr.heap, hl, by rw [hk]; exact xr.size, by omega, by rw [xr.size]; omega⟩
  · cases hp

theorem viewAt_cells {g : Nat} {c : Array Value} {e : TypeId} {fz : Nat × Nat} (hg : w.heap[g]? = some (.cells c e fz)) : (viewAt g).run P w = .ok none w := by
  simp [viewAt, World.shape?, hg]

theorem seenAt_cells {a : Addr} {c : Array Value} {e : TypeId} {fz : Nat × Nat} (hg : w.heap[a.block]? = some (.cells c e fz)) : (Conv.seenAt a).run P w = .ok a w := by
  unfold Conv.seenAt
  simp [-bind_pure_comp, viewAt_cells hg]

theorem rowAt_mono (fits : TypeId → Bool) : ∀ (d : Nat) (e : TypeId) (c C off n : Nat), c ≤ C → rowAt P fits d e c off n = true → rowAt P fits d e C off n = true
  | 0, _, _, _, _, _, _, h => by simp [rowAt] at h
  | d + 1, e, c, C, off, n, hc, h => by
    unfold rowAt at h ⊢
    by_cases hs : P.cellsOf e = 0
    · simp [hs] at h
    · simp only [hs, if_false, Bool.or_eq_true, Bool.and_eq_true, decide_eq_true_eq] at h ⊢
      rcases h with ⟨⟨h1, h2⟩, h3⟩ | ⟨h1, h2⟩
      · exact .inl ⟨⟨h1, by omega⟩, h3⟩
      · exact .inr ⟨by omega, h2⟩

theorem liesAt_mono : ∀ (d : Nat) (e : TypeId) (c C off : Nat) (u : TypeId) (n : Nat), c ≤ C → liesAt P d e c off u n = true → liesAt P d e C off u n = true
  | 0, _, _, _, _, _, _, _, h => by simp [liesAt] at h
  | d + 1, e, c, C, off, u, n, hc, h => by
    unfold liesAt at h ⊢
    simp only [Bool.or_eq_true] at h ⊢
    rcases h with h | h
    · exact .inl (rowAt_mono _ _ _ _ _ _ _ hc h)
    · right
      split at h
      · exact liesAt_mono d e c C off _ _ hc h
      · cases h

theorem variablesAt_cells {a : Addr} {c : Array Value} {e : TypeId} {fz : Nat × Nat} {C k : Nat} (hg : w.heap[a.block]? = some (.cells c e fz)) (hs : c.size = C * P.cellsOf e) (hp : 0 < P.cellsOf e) (hk : k ≤ C) {u : TypeId} {n : Nat} (hl : liesAt P P.depth e k a.off u n = true) :
    (variablesAt a u n).run P w = .ok true w := by
  have hd : c.size / P.cellsOf e = C := by rw [hs, Nat.mul_div_cancel _ hp]
  unfold variablesAt
  simp [-bind_pure_comp, World.shape?, hg, hd, liesAt_mono _ _ _ _ _ _ _ hk hl]

theorem convPtr_run (r : Rel F m h w) {s t : TypeId} {x y : AV} {v : Value} (hc : convPtr P h s t x = some y) (hv : VRel F m x v) : (convert s t v).run P w = .ok v w ∧ VRel F m y v := by
  unfold convPtr at hc
  split at hc
  · rename_i d id gen i p o hs ht
    split at hc
    · rename_i q n hp hz
      obtain ⟨e, c, off⟩ := q
      cases hb : Nat.ble 1 n with
      | false => simp [hb] at hc
      | true =>
        simp only [hb, cond_true, Option.some.injEq] at hc
        subst hc
        refine ⟨?_, hv⟩
        obtain ⟨g, C, cur, fz, rfl, h1, h2, h3, h4, h5⟩ := placeE_rel r hp hv
        have hn0 : n ≠ 0 := by have := Nat.le_of_ble_eq_true hb; omega
        have hnot : ¬ cur.size ≤ off := by omega
        simp [-bind_pure_comp, convert, run_underlying hs, run_underlying ht, Conv.unsafePointer, seenAt_cells (P := P) (a := ⟨g, off, none⟩) h1, cellsIn, World.shape?, h1, szOf_run hz, hn0, hnot]
    · cases hc
  · rename_i u id gen i p o hs ht
    split at hc
    · rename_i e c off n hp hz
      cases hb0 : (Nat.ble 1 n && liesAt P P.depth e c off u 1) with
      | false => simp [hb0] at hc
      | true =>
        simp only [hb0, cond_true, Option.some.injEq] at hc
        subst hc
        rw [Bool.and_eq_true] at hb0
        obtain ⟨hb1, hb⟩ := hb0
        have hn0 : n ≠ 0 := by have := Nat.le_of_ble_eq_true hb1; omega
        refine ⟨?_, hv⟩
        obtain ⟨g, C, cur, fz, rfl, h1, h2, h3, h4, h5⟩ := placeE_rel r hp hv
        have hva := variablesAt_cells (P := P) (a := ⟨g, off, none⟩) (u := u) (n := 1) h1 h3 h4 h2 hb
        simp [-bind_pure_comp, convert, run_underlying hs, run_underlying ht, Conv.unsafePointer, seenAt_cells (P := P) (a := ⟨g, off, none⟩) h1, szOf_run hz, hn0, hva]
    · cases hc
  · cases hc

end Go.AM

set_option linter.unusedVariables false
set_option linter.unusedSimpArgs false
namespace Go.AM
open Go

variable {F : Fz} {m : Mp} {fr : FR} {a : Act} {h : Heap} {w : World} {P : Program}

theorem evO_rel (hf : FRel F m fr a.tmps) {x : Option Operand} {y : Option AV} (hy : opE.evO fr x = some y) : ORel F m y (x.map a.eval) := by
  cases x with
  | none => simp [opE.evO] at hy; subst hy; simp [ORel]
  | some x =>
    simp only [opE.evO] at hy
    cases he : ev fr x with
    | none => simp [he] at hy
    | some z =>
      simp only [he, Option.some.injEq] at hy
      subst hy
      simp only [ORel, Option.map_some]
      exact ev_rel hf he

theorem map_toArray {α β : Type} (f : α → β) (x : Array α) (l : List β) (h : l = x.toList.map f) : l.toArray = x.map f := by subst h; apply Array.toList_inj.1; simp

set_option maxHeartbeats 1000000 in
theorem opE_sound {E : Env} (hE : E.ZerosOK) (r : Rel F m h w) (hf : FRel F m fr a.tmps) {f : FuncId} {o : Oper} {y : AV} {h' : Heap} {s : Option (Nat × Bool)} (ho : opE E f fr h o = some (y, h', s)) :
    Good E.P F m w y h' (execOp a.eval o) := by
  unfold execOp
  unfold opE at ho
  split at ho
  · -- move
    rename_i x hop
    try dsimp only at ho
    obtain ⟨h1, rfl, rfl⟩ := one_eq ho
    exact ⟨_, .value (a.eval x), w, F, m, by simp [hop], .inl rfl, Ext.refl _ _, ev_rel hf h1, r, Same.refl _⟩
  · -- assign
    rename_i x hop
    try dsimp only at ho
    obtain ⟨h1, rfl, rfl⟩ := one_eq ho
    exact ⟨_, .value (a.eval x), w, F, m, by simp [hop], .inl rfl, Ext.refl _ _, ev_rel hf h1, r, Same.refl _⟩
  · -- pick
    rename_i c p q hop
    try dsimp only at ho
    split at ho
    · rename_i hc
      have hcv := ev_rel hf hc
      simp only [VRel] at hcv
      obtain ⟨h1, rfl, rfl⟩ := one_eq ho
      exact ⟨_, .value (a.eval p), w, F, m, by simp [hop, hcv.2, asBool], .inl rfl, Ext.refl _ _, ev_rel hf h1, r, Same.refl _⟩
    · rename_i hc
      have hcv := ev_rel hf hc
      simp only [VRel] at hcv
      obtain ⟨h1, rfl, rfl⟩ := one_eq ho
      exact ⟨_, .value (a.eval q), w, F, m, by simp [hop, hcv.2, asBool], .inl rfl, Ext.refl _ _, ev_rel hf h1, r, Same.refl _⟩
    · cases ho
  · -- alloc
    rename_i t hop
    try dsimp only at ho
    split at ho
    · rename_i z hz
      cases hb : Nat.ble 1 (leafs z) with
      | false => simp [hb] at ho
      | true =>
        simp only [hb, cond_true, Option.some.injEq, Prod.mk.injEq] at ho
        obtain ⟨rfl, rfl, rfl⟩ := ho
        obtain ⟨v, v1, v2, v3, v4⟩ := zero_run (F := F) (m := m) hE hz w
        obtain ⟨m', g1, g2, g3, g4⟩ := newVar_good (P := E.P) r v2 v3 (Nat.le_of_ble_eq_true hb) t
        have : (Instr.alloc t true (.tuple #[])).run E.P w = .ok (.pointer (some ⟨w.heap.size, 0, none⟩)) (w.alloc (.cells v.cells t)) := by
          simp [-bind_pure_comp, Instr.alloc, v1, g1]
        rw [hop]
        dsimp only
        exact Good.new this g2 g3 g4 (same_alloc _ _)
    · cases ho
  · -- box
    rename_i t x hop
    try dsimp only at ho
    split at ho
    · rename_i y0 hx
      cases hb : (Nat.ble 1 (leafs y0) && !isTupA y0) with
      | false => simp [hb] at ho
      | true =>
        simp only [hb, cond_true, Option.some.injEq, Prod.mk.injEq] at ho
        obtain ⟨rfl, rfl, rfl⟩ := ho
        rw [Bool.and_eq_true] at hb
        have v2 := ev_rel hf hx
        obtain ⟨m', g1, g2, g3, g4⟩ := newVar_good (P := E.P) r v2 (notTup_of v2 (by simpa using hb.2)) (Nat.le_of_ble_eq_true hb.1) t
        have : (Instr.box t (a.eval x)).run E.P w = .ok (.pointer (some ⟨w.heap.size, 0, none⟩)) (w.alloc (.cells (a.eval x).cells t)) := by
          simp [-bind_pure_comp, Instr.box, g1]
        rw [hop]
        dsimp only
        exact Good.new this g2 g3 g4 (same_alloc _ _)
    · cases ho
  · -- build
    rename_i t ps hop
    try dsimp only at ho
    split at ho
    · rename_i qs hq
      obtain ⟨h1, rfl, rfl⟩ := one_eq ho
      have hp : PL F m qs (ps.map fun q => (q.1, a.eval q.2)).toList := by simpa using evP_rel hf hq
      obtain ⟨v, v1, v2⟩ := build_run hE h1 hp w
      rw [hop]
      dsimp only
      exact Good.val r v1 v2
    · cases ho
  · -- buildSlice
    rename_i t len ps hop
    try dsimp only at ho
    split at ho
    · rename_i qs e hq hu
      split at ho
      · rename_i k hk
        have hp : PL F m qs (ps.map fun q => (q.1, a.eval q.2)).toList := by simpa using evP_rel hf hq
        split at ho
        · rename_i zs hz
          split at ho
          · rename_i l hl
            cases hb : (Nat.ble (len * k) 16777216 && Nat.ble 1 k) with
            | false => simp [hb] at ho
            | true =>
              simp only [hb, cond_true] at ho
              obtain ⟨cs, c1, c2, c3, c4, c5, c6⟩ := buildSlice_run hE r hu hk hz hl hb hp
              have hcl := len_of_CL c2 c3
              rw [c4] at hcl
              rw [hop]
              dsimp only
              cases hr : E.rows f with
              | true =>
                simp only [hr, cond_true, Option.some.injEq, Prod.mk.injEq] at ho
                obtain ⟨rfl, rfl, rfl⟩ := ho
                have hlen : len ≤ len * k := Nat.le_mul_of_pos_right _ (by omega)
                obtain ⟨r', e'⟩ := r.newRow (k := k) (C := len) (els := l) (ex := ⟨true, e⟩) (cells := cs.toArray) (by omega) (by simpa using hcl) (by omega) (fun _ => c4) (by simp only [maxLen]; omega) c3
                  (by rw [c4, List.take_of_length_le (by simp; omega)]; simpa using c2)
                refine Good.new c1 e' ?_ r' (same_alloc _ _)
                simp only [VRel]
                exact ⟨w.heap.size, len, k, ⟨w.heap.size, 0, none⟩, Mp.add_same, by omega, rfl, rfl, by simp, by simp⟩
              | false =>
                simp only [hr, cond_false, Option.some.injEq, Prod.mk.injEq] at ho
                obtain ⟨rfl, rfl, rfl⟩ := ho
                obtain ⟨r', e'⟩ := r.frozenBlock (.cells cs.toArray e)
                refine ⟨.slice (some ⟨w.heap.size, 0, none⟩) len len, .value (.slice (some ⟨w.heap.size, 0, none⟩) len len), _, _, m, by simp [c1], .inl rfl, e', ?_, r', same_alloc _ _⟩
                simp only [VRel]
                refine ⟨⟨w.heap.size, 0, none⟩, len, cs, c2.mono e', c3, fun j v hj => ⟨cs.toArray, e, (0, 0), by simp [Fz.add], by simpa using hj⟩, rfl, by omega, fun _ => by omega, by rw [c4]⟩
          · cases ho
        · cases ho
      · cases ho
    · cases ho
  · -- load
    rename_i t x hop
    try dsimp only at ho
    split at ho
    · rename_i p hp
      obtain ⟨h1, rfl, rfl⟩ := one_eq ho
      obtain ⟨ad, v, v1, v2, v3, v4⟩ := loadE_run (P := E.P) r (ev_rel hf hp) h1
      rw [hop]
      dsimp only
      exact Good.val r (by simp [-bind_pure_comp, Instr.loadAt, Instr.sureAddr, v1, v2]) v3
    · cases ho
  · -- store
    rename_i t x z hop
    try dsimp only at ho
    split at ho
    · rename_i p y0 hp hz
      split at ho
      · rename_i h1 id hs
        simp only [Option.some.injEq, Prod.mk.injEq] at ho
        obtain ⟨rfl, rfl, rfl⟩ := ho
        obtain ⟨ad, w', v1, v2, v3, v4⟩ := storeE_run (P := E.P) r (ev_rel hf hp) (ev_rel hf hz) hs
        rw [hop]
        dsimp only
        exact ⟨undef, .skip, w', F, m, by simp [-bind_pure_comp, Instr.storeAt, Instr.sureAddr, v1, v2], .inr ⟨rfl, rfl⟩, Ext.refl _ _, by simp [VRel, VL, undef], v3, v4⟩
      · cases ho
    · cases ho
  · -- nilCheck
    rename_i x hop
    try dsimp only at ho
    rw [hop]
    dsimp only
    split at ho
    · rename_i hx
      simp only [Option.some.injEq, Prod.mk.injEq] at ho
      obtain ⟨rfl, rfl, rfl⟩ := ho
      have hv := ev_rel hf hx
      have hv' := hv
      simp only [VRel] at hv'
      obtain ⟨g, C, k, _, e⟩ := hv'
      exact ⟨a.eval x, .value (a.eval x), w, F, m, by rw [e]; simp, .inl rfl, Ext.refl _ _, hv, r, Same.refl _⟩
    · rename_i hx
      simp only [Option.some.injEq, Prod.mk.injEq] at ho
      obtain ⟨rfl, rfl, rfl⟩ := ho
      have hv := ev_rel hf hx
      have hv' := hv
      simp only [VRel] at hv'
      obtain ⟨ad, z, _, _, _, _, e⟩ := hv'
      exact ⟨a.eval x, .value (a.eval x), w, F, m, by rw [e]; simp, .inl rfl, Ext.refl _ _, hv, r, Same.refl _⟩
    · rename_i hx
      simp only [Option.some.injEq, Prod.mk.injEq] at ho
      obtain ⟨rfl, rfl, rfl⟩ := ho
      have hv := ev_rel hf hx
      have hv' := hv
      simp only [VRel] at hv'
      obtain ⟨xs, ys, _, _, e⟩ := hv'
      exact ⟨a.eval x, .value (a.eval x), w, F, m, by rw [e]; simp, .inl rfl, Ext.refl _ _, hv, r, Same.refl _⟩
    · cases ho
  · -- binOp
    rename_i op t x z yt hop
    try dsimp only at ho
    split at ho
    · rename_i ax az hx hz
      obtain ⟨h1, rfl, rfl⟩ := one_eq ho
      have vx := ev_rel hf hx
      have vz := ev_rel hf hz
      rw [hop]
      dsimp only
      unfold binE at h1
      split at h1
      · rename_i vx' vz' tx tz
        obtain ⟨v, v1, v2, v3, v4⟩ := pure1_rel (F := F) (m := m) h1
        rw [toV_rel ax vx' tx _ vx, toV_rel az vz' tz _ vz]
        exact Good.val r (prun_run _ _ v1 w) v3
      · split at h1
        · rename_i d hd
          split at h1
          · rename_i b hb
            injection h1 with h1
            subst h1
            obtain ⟨n1, n2, n3, n4⟩ := nilEq_run (P := E.P) hd hb vx vz x z w
            exact Good.val r (v := .bool b) (by simp [-bind_pure_comp, n1, n3]) (by simp [VRel, free])
          · cases hb : ptrSame E.P d ax az with
            | false => simp [hb] at h1
            | true =>
              simp only [hb, cond_true, Option.some.injEq] at h1
              subst h1
              obtain ⟨n1, n2, n3, n4⟩ := ptrSame_run (P := E.P) hd hb vx vz x z w
              exact Good.val r (v := .bool true) (by simp [-bind_pure_comp, n1, n3]) (by simp [VRel, free])
        · rename_i d hd
          split at h1
          · rename_i b hb
            injection h1 with h1
            subst h1
            obtain ⟨n1, n2, n3, n4⟩ := nilEq_run (P := E.P) hd hb vx vz x z w
            exact Good.val r (v := .bool !b) (by simp [-bind_pure_comp, n2, n4]) (by simp [VRel, free])
          · cases hb : ptrSame E.P d ax az with
            | false => simp [hb] at h1
            | true =>
              simp only [hb, cond_true, Option.some.injEq] at h1
              subst h1
              obtain ⟨n1, n2, n3, n4⟩ := ptrSame_run (P := E.P) hd hb vx vz x z w
              exact Good.val r (v := .bool false) (by simp [-bind_pure_comp, n2, n4]) (by simp [VRel, free])
        · cases h1
    · cases ho
  · -- unOp
    rename_i op t x hop
    try dsimp only at ho
    rw [hop]
    dsimp only
    split at ho
    · rename_i ax hx
      split at ho
      · rename_i vx' tx
        obtain ⟨h1, rfl, rfl⟩ := one_eq ho
        obtain ⟨v, v1, v2, v3, v4⟩ := pure1_rel (F := F) (m := m) h1
        rw [toV_rel ax vx' tx _ (ev_rel hf hx)]
        exact Good.val r (prun_run _ _ v1 w) v3
      · cases ho
    · cases ho
  · -- convert
    rename_i s0 t x hop
    try dsimp only at ho
    rw [hop]
    dsimp only
    split at ho
    · rename_i ax hx
      have vx := ev_rel hf hx
      split at ho
      · rename_i e b h1 h2
        split at ho
        · rename_i h3
          simp only [Option.some.injEq, Prod.mk.injEq] at ho
          obtain ⟨rfl, rfl, rfl⟩ := ho
          simp only [VRel] at vx
          rw [vx.2]
          obtain ⟨v, w', F', c1, c2, c3, c4, c5⟩ := toBytes_run (P := E.P) r (b := b) h1 h2 h3
          exact ⟨v, .value v, w', F', m, by simp [c1], .inl rfl, c2, c3, c4, c5⟩
        · cases ho
      · rename_i a2 e h1 h2
        split at ho
        · rename_i h3
          split at ho
          · rename_i b hb
            simp only [Option.some.injEq, Prod.mk.injEq] at ho
            obtain ⟨rfl, rfl, rfl⟩ := ho
            exact Good.val r (toString_run (P := E.P) r h1 h2 h3 hb vx) (by simp [VRel, free])
          · cases ho
        · cases ho
      · split at ho
        · rename_i vx' tx
          obtain ⟨h1, rfl, rfl⟩ := one_eq ho
          obtain ⟨v, v1, v2, v3, v4⟩ := pure1_rel (F := F) (m := m) h1
          rw [toV_rel _ vx' tx _ vx]
          exact Good.val r (prun_run _ _ v1 w) v3
        · obtain ⟨h1, rfl, rfl⟩ := one_eq ho
          obtain ⟨c1, c2⟩ := convPtr_run r h1 vx
          exact Good.val r c1 c2
    · cases ho
  · -- makeFunc
    rename_i g p q hop
    try dsimp only at ho
    rw [hop]
    dsimp only
    split at ho
    · rename_i x z hx hz
      simp only [Option.some.injEq, Prod.mk.injEq] at ho
      obtain ⟨rfl, rfl, rfl⟩ := ho
      refine Good.val r (v := .func g (p.map a.eval) (q.map a.eval)) (by simp [Instr.makeFunc]) ?_
      simp only [VRel]
      exact ⟨_, _, evL_rel hf hx, evL_rel hf hz, by rw [map_toArray a.eval p _ rfl, map_toArray a.eval q _ rfl]⟩
    · cases ho
  · -- makeSlice
    rename_i t l c hop
    try dsimp only at ho
    rw [hop]
    dsimp only
    split at ho
    · rename_i e kn n kc mm hu hl hc
      split at ho
      · rename_i z hz
        cases hb : (Nat.beq ((szOf E.P e).getD 0) (leafs z) && decide (n = mm) && decide (0 ≤ n) && decide (n * ((E.P.info? e).map (·.bytes)).getD 0 ≤ 140737488355328) && Nat.ble 1 (leafs z) && decide (n ≤ 140737488355328)) with
        | false => simp only [hb, cond_false] at ho; cases ho
        | true =>
          simp only [hb, cond_true, Option.some.injEq, Prod.mk.injEq] at ho
          obtain ⟨rfl, rfl, rfl⟩ := ho
          simp only [Bool.and_eq_true, decide_eq_true_eq] at hb
          obtain ⟨⟨⟨⟨⟨b1, b2⟩, b3⟩, b4⟩, b5⟩, b6⟩ := hb
          subst b2
          have hlz : 1 ≤ leafs z := Nat.le_of_ble_eq_true b5
          have hsz : szOf E.P e = some (leafs z) := by
            have e1 : (szOf E.P e).getD 0 = leafs z := Nat.eq_of_beq_eq_true b1
            cases hq : szOf E.P e with
            | none => rw [hq] at e1; simp at e1; omega
            | some q => rw [hq] at e1; simp at e1; rw [e1]
          have vl := ev_rel hf hl
          have vc := ev_rel hf hc
          simp only [VRel] at vl vc
          rw [vl.2, vc.2]
          obtain ⟨cs, c1, c2⟩ := makeSlice_run (E := E) hE r (kn := kn) (kc := kc) hu hz b3 b4 hlz b6 hsz
          have hk := allK_replicate (n := n.toNat) (x := z) rfl
          have hcl := len_of_CL c2 hk
          simp only [List.length_replicate] at hcl
          obtain ⟨r', e'⟩ := r.newRow (k := leafs z) (C := n.toNat) (els := List.replicate n.toNat z) (ex := ⟨true, e⟩) (cells := cs.toArray) (by omega) (by simpa using hcl) (by simp) (by simp) (by simp only [maxLen]; omega) hk
            (by rw [List.length_replicate, List.take_of_length_le (by simp; omega)]; simpa using c2)
          refine Good.new c1 e' ?_ r' (same_alloc _ _)
          simp only [VRel]
          exact ⟨w.heap.size, n.toNat, leafs z, ⟨w.heap.size, 0, none⟩, Mp.add_same, by omega, rfl, rfl, by simp, by simp⟩
      · cases ho
    · cases ho
  · -- makeMap
    rename_i t hop
    try dsimp only at ho
    rw [hop]
    dsimp only
    split at ho
    · rename_i kt e hu
      simp only [Option.some.injEq, Prod.mk.injEq] at ho
      obtain ⟨rfl, rfl, rfl⟩ := ho
      obtain ⟨r', e'⟩ := r.newMap
      refine Good.new (v := .map (some w.heap.size)) (by simp [-bind_pure_comp, Instr.makeMap]) e' ?_ r' (same_alloc _ _)
      simp only [VRel]
      exact ⟨w.heap.size, by simp [Mp.addM], rfl⟩
    · cases ho
  · -- slice
    rename_i t x lo hi mx hop
    try dsimp only at ho
    rw [hop]
    dsimp only
    split at ho
    · rename_i ax l0 h0 m0 hx h1 h2 h3
      obtain ⟨g1, rfl, rfl⟩ := one_eq ho
      obtain ⟨v, v1, v2⟩ := sliceE_run (P := E.P) r (ev_rel hf hx) (evO_rel hf h1) (evO_rel hf h2) (evO_rel hf h3) g1
      exact Good.val r v1 v2
    · cases ho
  · -- fieldAddr
    rename_i t x g hop
    try dsimp only at ho
    rw [hop]
    dsimp only
    split at ho
    · rename_i ax hx
      obtain ⟨g1, rfl, rfl⟩ := one_eq ho
      obtain ⟨v, v1, v2⟩ := fieldAddr_run (P := E.P) (w := w) (ev_rel hf hx) g1
      exact Good.val r v1 v2
    · cases ho
  · -- field
    rename_i t x g hop
    try dsimp only at ho
    rw [hop]
    dsimp only
    split at ho
    · rename_i ax hx
      obtain ⟨g1, rfl, rfl⟩ := one_eq ho
      obtain ⟨v, v1, v2⟩ := field_run (P := E.P) (w := w) (ev_rel hf hx) g1
      exact Good.val r v1 v2
    · cases ho
  · -- indexAddr
    rename_i t x i hop
    try dsimp only at ho
    rw [hop]
    dsimp only
    split at ho
    · rename_i ax ai hx hi
      obtain ⟨g1, rfl, rfl⟩ := one_eq ho
      obtain ⟨v, v1, v2⟩ := indexAddr_run (P := E.P) r (ev_rel hf hx) (ev_rel hf hi) g1
      exact Good.val r v1 v2
    · cases ho
  · -- index
    rename_i t x i hop
    try dsimp only at ho
    rw [hop]
    dsimp only
    split at ho
    · rename_i ax ai hx hi
      obtain ⟨g1, rfl, rfl⟩ := one_eq ho
      obtain ⟨v, v1, v2⟩ := index_run (P := E.P) (w := w) (ev_rel hf hx) (ev_rel hf hi) g1
      exact Good.val r v1 v2
    · cases ho
  · -- extract
    rename_i x i hop
    try dsimp only at ho
    rw [hop]
    dsimp only
    split at ho
    · rename_i l hx
      obtain ⟨g1, rfl, rfl⟩ := one_eq ho
      have hv := ev_rel hf hx
      simp only [VRel] at hv
      obtain ⟨ys, y1, y2⟩ := hv
      have key : ∀ (l : List AV) (ys : List Value) (i : Nat) (y : AV), VL F m l ys → l[i]? = some y → ∃ v, ys[i]? = some v ∧ VRel F m y v := by
        intro l
        induction l with
        | nil => intro ys i y _ hi; simp at hi
        | cons z l ih =>
          intro ys i y hl hi
          simp only [VL] at hl
          obtain ⟨v, ds, a1, a2, rfl⟩ := hl
          cases i with
          | zero => simp at hi; subst hi; exact ⟨v, by simp, a1⟩
          | succ i => simp at hi; obtain ⟨v', b1, b2⟩ := ih ds i y a2 hi; exact ⟨v', by simpa using b1, b2⟩
      obtain ⟨v, v1, v2⟩ := key l ys i y y1 g1
      refine Good.val r (v := v) ?_ v2
      rw [y2]
      simp [Instr.extract, v1]
    · cases ho
  · cases ho

end Go.AM
