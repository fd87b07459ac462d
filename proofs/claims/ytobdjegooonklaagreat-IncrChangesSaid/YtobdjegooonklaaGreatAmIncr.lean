/- What the incr package does, first part: which changes may be. Conditions: none. -/
import Derived.Test.YtobdjegooonklaaGreatAmPrefix
set_option linter.unusedSimpArgs false
set_option linter.unusedVariables false
namespace Go.Proofs.YtobdjegooonklaaGreat
open Go Go.AM

def rightR (r : Route) : Bool := right r.to && (decide (0 ≤ r.metric) && decide (r.metric < 65535))
def bare (p : Pre) : Route := ⟨p, 0, 0⟩
def may (i : Inc) : Bool := if i.kind = 1 ∨ i.kind = 2 then rightR i.r else if i.kind = 3 then right i.r.to && decide (i.r = bare i.r.to) else false

theorem bare_ok {p : Pre} (h : p.ok) : (bare p).ok := ⟨h, by unfold i64 bare; simp, by simp [bare], by simp [bare]⟩

theorem c45 (n : Nat) (h : Heap) (r : Route) (hr : r.ok) : call E (n + 502) 45 [r.av] h = some (.v (.bool (rightR r)), h, ⟨[], [], true⟩) := by
  have hc := fun n h => c68 n h r.to hr.1
  have hpl : AM.leafs r.to.av = 18 := Pre.leafs hr.1
  have hpa : isAggA r.to.av = true := rfl
  obtain ⟨to, metric, seq⟩ := r
  simp only at hc hpl hpa
  rw [call_at (E := E) (f := 45) (fn := Tryz.f45) rfl Tryz.func45 rfl (Nat.le_of_ble_eq_true rfl)]
  cases hb : right to with
  | false =>
    rw [hb] at hc
    simp -implicitDefEqProofs only [simA, Nat.reduceAdd, Nat.reduceLT, Nat.reduceEqDiff, Nat.reduceLeDiff, Nat.reduceMul, Int.reduceBEq, Int.reduceBNe, Int.reduceLT, Int.reduceLE, Int.reduceAdd, Int.reduceSub, Int.reduceMul, Int.reduceNeg, Nat.reduceSub, Nat.reducePow, Nat.reduceDiv, Nat.reduceMod, fo_58_0, sz_55, agg_55, fo_58_1, sz_3, agg_3, keep_45, E_masks, masks, rows_45, Tryz.f45, Route.av, hpl, hpa, hc]
    simp [rightR, hb]
  | true =>
    rw [hb] at hc
    by_cases h1 : 0 ≤ metric
    · simp -implicitDefEqProofs only [simA, Nat.reduceAdd, Nat.reduceLT, Nat.reduceEqDiff, Nat.reduceLeDiff, Nat.reduceMul, Int.reduceBEq, Int.reduceBNe, Int.reduceLT, Int.reduceLE, Int.reduceAdd, Int.reduceSub, Int.reduceMul, Int.reduceNeg, Nat.reduceSub, Nat.reducePow, Nat.reduceDiv, Nat.reduceMod, fo_58_0, sz_55, agg_55, fo_58_1, sz_3, agg_3, keep_45, E_masks, masks, rows_45, Tryz.f45, Route.av, hpl, hpa, hc, h1]
      simp [rightR, hb, h1]
    · simp -implicitDefEqProofs only [simA, Nat.reduceAdd, Nat.reduceLT, Nat.reduceEqDiff, Nat.reduceLeDiff, Nat.reduceMul, Int.reduceBEq, Int.reduceBNe, Int.reduceLT, Int.reduceLE, Int.reduceAdd, Int.reduceSub, Int.reduceMul, Int.reduceNeg, Nat.reduceSub, Nat.reducePow, Nat.reduceDiv, Nat.reduceMod, fo_58_0, sz_55, agg_55, fo_58_1, sz_3, agg_3, keep_45, E_masks, masks, rows_45, Tryz.f45, Route.av, hpl, hpa, hc, h1]
      simp [rightR, hb, h1]

theorem c65 (n : Nat) (h : Heap) (i : Inc) (hi : i.ok) : call E (n + 503) 65 [i.av] h = some (.v (.bool (may i)), h, ⟨[], [], true⟩) := by
  have hc := fun n h => c68 n h i.r.to hi.2.1
  have hc2 := fun n h => c45 n h i.r hi.2
  have hpl : AM.leafs i.r.to.av = 18 := Pre.leafs hi.2.1
  have hpa : isAggA i.r.to.av = true := rfl
  have hrl : AM.leafs i.r.av = 20 := Route.leafs hi.2
  have hra : isAggA i.r.av = true := rfl
  have hpt : isTupA i.r.to.av = false := rfl
  have heq := fun ox oy => eq58 (ox := ox) (oy := oy) hi.2 (bare_ok hi.2.1)
  have hnav : nav i.r.av [0] 0 = some i.r.to.av := by simp [Route.av, nav, navL]
  have hz : leafs (.agg [.v (.bool false), .agg (List.replicate 16 (.v (.int .u8 0))), .v (.int .i64 0)]) = 18 := by kernel_rfl
  obtain ⟨kind, r⟩ := i
  simp only at hc hc2 hpl hpa hrl hra hpt heq hnav
  rw [call_at (E := E) (f := 65) (fn := Tryz.f65) rfl Tryz.func65 rfl (Nat.le_of_ble_eq_true rfl)]
  by_cases k1 : kind = 1
  · subst k1
    simp -implicitDefEqProofs only [simA, Nat.reduceAdd, Nat.reduceLT, Nat.reduceEqDiff, Nat.reduceLeDiff, Nat.reduceMul, Int.reduceBEq, Int.reduceBNe, Int.reduceLT, Int.reduceLE, Int.reduceAdd, Int.reduceSub, Int.reduceMul, Int.reduceNeg, Nat.reduceSub, Nat.reducePow, Nat.reduceDiv, Nat.reduceMod, fo_60_0, sz_3, agg_3, fo_60_1, sz_58, agg_58, fo_58_0, sz_55, agg_55, bd_58, keep_65, E_masks, masks, rows_65, Tryz.f65, Inc.av, hrl, hra, hc2]
    simp [may]
  · by_cases k2 : kind = 2
    · subst k2
      simp -implicitDefEqProofs only [simA, Nat.reduceAdd, Nat.reduceLT, Nat.reduceEqDiff, Nat.reduceLeDiff, Nat.reduceMul, Int.reduceBEq, Int.reduceBNe, Int.reduceLT, Int.reduceLE, Int.reduceAdd, Int.reduceSub, Int.reduceMul, Int.reduceNeg, Nat.reduceSub, Nat.reducePow, Nat.reduceDiv, Nat.reduceMod, fo_60_0, sz_3, agg_3, fo_60_1, sz_58, agg_58, fo_58_0, sz_55, agg_55, bd_58, keep_65, E_masks, masks, rows_65, Tryz.f65, Inc.av, hrl, hra, hc2]
      simp [may]
    · have e1 : (kind == 1) = false := by simpa using k1
      have e2 : (kind == 2) = false := by simpa using k2
      by_cases k3 : kind = 3
      · subst k3
        cases hb : right r.to with
        | false =>
          rw [hb] at hc
          simp -implicitDefEqProofs only [simA, Nat.reduceAdd, Nat.reduceLT, Nat.reduceEqDiff, Nat.reduceLeDiff, Nat.reduceMul, Int.reduceBEq, Int.reduceBNe, Int.reduceLT, Int.reduceLE, Int.reduceAdd, Int.reduceSub, Int.reduceMul, Int.reduceNeg, Nat.reduceSub, Nat.reducePow, Nat.reduceDiv, Nat.reduceMod, fo_60_0, sz_3, agg_3, fo_60_1, sz_58, agg_58, fo_58_0, sz_55, agg_55, bd_58, keep_65, E_masks, masks, rows_65, Tryz.f65, Inc.av, hrl, hra, hnav, hpl, hpa, hc]
          simp [may, hb]
        | true =>
          rw [hb] at hc
          have heq' : ∀ ox oy, binE E.P .eql 58 ox oy r.av (.agg [r.to.av, .v (.int .i64 0), .v (.int .u32 0)]) = some (.v (.bool (decide (r = bare r.to)))) := heq
          have hz' : leafsL (List.replicate 16 (AV.v (.int .u8 0))) = 16 := by kernel_rfl
          simp -implicitDefEqProofs only [simA, Nat.reduceAdd, Nat.reduceLT, Nat.reduceEqDiff, Nat.reduceLeDiff, Nat.reduceMul, Int.reduceBEq, Int.reduceBNe, Int.reduceLT, Int.reduceLE, Int.reduceAdd, Int.reduceSub, Int.reduceMul, Int.reduceNeg, Nat.reduceSub, Nat.reducePow, Nat.reduceDiv, Nat.reduceMod, fo_60_0, sz_3, agg_3, fo_60_1, sz_58, agg_58, fo_58_0, sz_55, agg_55, bd_58, keep_65, E_masks, masks, rows_65, Tryz.f65, Inc.av, hrl, hra, hnav, hpl, hpa, hpt, hc, hz', heq']
          simp [may, hb]
      · have e3 : (kind == 3) = false := by simpa using k3
        simp -implicitDefEqProofs only [simA, Nat.reduceAdd, Nat.reduceLT, Nat.reduceEqDiff, Nat.reduceLeDiff, Nat.reduceMul, Int.reduceBEq, Int.reduceBNe, Int.reduceLT, Int.reduceLE, Int.reduceAdd, Int.reduceSub, Int.reduceMul, Int.reduceNeg, Nat.reduceSub, Nat.reducePow, Nat.reduceDiv, Nat.reduceMod, fo_60_0, sz_3, agg_3, fo_60_1, sz_58, agg_58, fo_58_0, sz_55, agg_55, bd_58, keep_65, E_masks, masks, rows_65, Tryz.f65, Inc.av, hrl, hra, e1, e2, e3]
        simp [may, k1, k2, k3]

theorem c64 (n : Nat) (h : Heap) (i : Inc) (hi : i.ok) : call E (n + 504) 64 [i.av] h = some (.v (.bool !(may i)), h, ⟨[], [], true⟩) := by
  have hc := fun n h => c65 n h i hi
  have hil : AM.leafs i.av = 21 := Inc.leafs hi
  have hia : isAggA i.av = true := rfl
  have hit : isTupA i.av = false := rfl
  rw [call_at (E := E) (f := 64) (fn := Tryz.f64) rfl Tryz.func64 rfl (Nat.le_of_ble_eq_true rfl)]
  simp -implicitDefEqProofs only [simA, Nat.reduceAdd, Nat.reduceLT, Nat.reduceEqDiff, Nat.reduceLeDiff, Nat.reduceMul, Int.reduceBEq, Int.reduceBNe, Int.reduceLT, Int.reduceLE, Int.reduceAdd, Int.reduceSub, Int.reduceMul, Int.reduceNeg, Nat.reduceSub, Nat.reducePow, Nat.reduceDiv, Nat.reduceMod, sz_60, agg_60, keep_64, E_masks, masks, rows_64, Tryz.f64, hil, hia, hit, hc]

/-- A slice that reads as a list. -/
def SlV (h : Heap) (k : Nat) (x : AV) (ys : List AV) : Prop := (x = nilS ∧ ys = []) ∨ (∃ b, x = .lit k b ys) ∨ (∃ id gen ex, x = .sl id gen 0 ys.length ∧ h[id]? = some (.row k gen ys ex))

theorem SlV.len {h : Heap} {k : Nat} {x : AV} {ys : List AV} (s : SlV h k x ys) : sliceLen x = some ys.length := by
  rcases s with ⟨rfl, rfl⟩ | ⟨b, rfl⟩ | ⟨id, gen, ex, rfl, _⟩ <;> rfl
theorem SlV.stay {h h' : Heap} {k : Nat} {x : AV} {ys : List AV} (s : SlV h k x ys) (hh : ∀ id, id < h.length → h'[id]? = h[id]?) : SlV h' k x ys := by
  rcases s with s | s | ⟨id, gen, ex, hx, hr⟩
  · exact .inl s
  · exact .inr (.inl s)
  · exact .inr (.inr ⟨id, gen, ex, hx, by rw [hh id (List.getElem?_eq_some_iff.1 hr).1]; exact hr⟩)
theorem SlV.at {h : Heap} {k : Nat} {x : AV} {ys : List AV} (s : SlV h k x ys) {t e : TypeId} (hu : E.P.underlying t = some (.slice e)) (hs : szOf E.P e = some k) {j : Nat} {y : AV} (hy : ys[j]? = some y) :
    ∃ a, indexAddrE E.P h t x (.v (.int .i64 (j : Nat))) = some a ∧ lookAt h a = some y := by
  have hj : j < ys.length := (List.getElem?_eq_some_iff.1 hy).1
  have h1 : (0 : Int) ≤ j := by omega
  have h2 : (j : Int) < ys.length := by omega
  rcases s with ⟨_, rfl⟩ | ⟨b, rfl⟩ | ⟨id, gen, ex, rfl, hr⟩
  · simp at hy
  · exact ⟨.rop y, by simp [indexAddrE, hu, hs, idx, h2, hy], rfl⟩
  · refine ⟨.ptr id gen j [] 0, by simp [indexAddrE, hu, hs, idx, h2, hr], ?_⟩
    simp [lookAt, hr, hy, nav]

theorem c99loop (n n0 : Nat) (h : Heap) (x : AV) (all : List Inc) (hok : ∀ i ∈ all, i.ok) (s : SlV h 21 x (all.map Inc.av)) (hbig : all.length < 1000000) : ∀ (rest pre : List Inc) (j : Nat) (fr : FR), pre ++ rest = all → rest.length < j → keepF (masks 99) fr = [(0, x), (1, .fn (.func 64) [] []), (7, .v (.int .i64 all.length)), (8, .v (.int .i64 (pre.length : Nat)))] →
    ∃ fr', (loopN (exec E (call E (n + 504)) (n + 504) 99 19 n0 (loopB Tryz.f99 0)) (masks 99) j ⟨fr, h, [], []⟩ = some (.exit 0, ⟨fr', h, [], []⟩) ∧ (rest.any fun i => !may i) = false) ∨
      ∃ r : Nat, loopN (exec E (call E (n + 504)) (n + 504) 99 19 n0 (loopB Tryz.f99 0)) (masks 99) j ⟨fr, h, [], []⟩ = some (.ret, ⟨fr', h, [], []⟩) ∧ AM.get fr' 4 = some (.v (.int .i64 r)) ∧ (rest.any fun i => !may i) = true
  | [], pre, j, fr, hl, hj, hk => by
    obtain ⟨j, rfl⟩ : ∃ i, j = i + 1 := ⟨j - 1, by simp at hj; omega⟩
    have hi : ¬ ((pre.length : Int) < all.length) := by rw [← hl]; simp
    have he : ∃ fr', exec E (call E (n + 504)) (n + 504) 99 19 n0 (loopB Tryz.f99 0) ⟨keepF (masks 99) fr, h, [], []⟩ = some (.exit 0, ⟨fr', h, [], []⟩) := by
      rw [hk, exec_code]
      simp -implicitDefEqProofs only [simA, Nat.reduceAdd, Nat.reduceLT, Nat.reduceEqDiff, Nat.reduceLeDiff, Nat.reduceMul, Int.reduceBEq, Int.reduceBNe, Int.reduceLT, Int.reduceLE, Int.reduceAdd, Int.reduceSub, Int.reduceMul, Int.reduceNeg, Nat.reduceSub, Nat.reducePow, Nat.reduceDiv, Nat.reduceMod, ln_22, und_22, sz_60, agg_60, keep_99, E_masks, masks, rows_99, Tryz.f99, hi]
      exact ⟨_, rfl⟩
    obtain ⟨fr', he⟩ := he
    exact ⟨fr', .inl ⟨loopN_out he, rfl⟩⟩
  | i :: rest, pre, j, fr, hl, hj, hk => by
    obtain ⟨j, rfl⟩ : ∃ i, j = i + 1 := ⟨j - 1, by simp at hj; omega⟩
    have hlen : pre.length < all.length := by rw [← hl]; simp
    have hi : ((pre.length : Int) < all.length) := by omega
    have hi0 : i.ok := hok i (by rw [← hl]; simp)
    obtain ⟨a, ha1, ha2⟩ := s.at (t := 22) (e := 60) und_22 sz_60 (j := pre.length) (y := i.av) (by rw [← hl]; simp)
    have hil : AM.leafs i.av = 21 := Inc.leafs hi0
    have hia : isAggA i.av = true := rfl
    have hc := fun n h => c64 n h i hi0
    have w1 := wrapN1 (n := pre.length) (by omega)
    cases hm : may i with
    | false =>
      rw [hm] at hc
      have he : ∃ fr', exec E (call E (n + 504)) (n + 504) 99 19 n0 (loopB Tryz.f99 0) ⟨keepF (masks 99) fr, h, [], []⟩ = some (.ret, ⟨fr', h, [], []⟩) ∧ AM.get fr' 4 = some (.v (.int .i64 (pre.length : Nat))) := by
        rw [hk, exec_code]
        simp -implicitDefEqProofs only [simA, Nat.reduceAdd, Nat.reduceLT, Nat.reduceEqDiff, Nat.reduceLeDiff, Nat.reduceMul, Int.reduceBEq, Int.reduceBNe, Int.reduceLT, Int.reduceLE, Int.reduceAdd, Int.reduceSub, Int.reduceMul, Int.reduceNeg, Nat.reduceSub, Nat.reducePow, Nat.reduceDiv, Nat.reduceMod, ln_22, und_22, sz_60, agg_60, keep_99, E_masks, masks, rows_99, Tryz.f99, hi, ha1, ha2, hil, hia, hc]
        exact ⟨_, rfl, rfl⟩
      obtain ⟨fr', he, hg⟩ := he
      exact ⟨fr', .inr ⟨pre.length, loopN_ret he, hg, by simp [hm]⟩⟩
    | true =>
      rw [hm] at hc
      have he : ∃ fr', exec E (call E (n + 504)) (n + 504) 99 19 n0 (loopB Tryz.f99 0) ⟨keepF (masks 99) fr, h, [], []⟩ = some (.normal, ⟨fr', h, [], []⟩) ∧ keepF (masks 99) fr' = [(0, x), (1, .fn (.func 64) [] []), (7, .v (.int .i64 all.length)), (8, .v (.int .i64 ((pre ++ [i]).length : Nat)))] := by
        rw [hk, exec_code]
        simp -implicitDefEqProofs only [simA, Nat.reduceAdd, Nat.reduceLT, Nat.reduceEqDiff, Nat.reduceLeDiff, Nat.reduceMul, Int.reduceBEq, Int.reduceBNe, Int.reduceLT, Int.reduceLE, Int.reduceAdd, Int.reduceSub, Int.reduceMul, Int.reduceNeg, Nat.reduceSub, Nat.reducePow, Nat.reduceDiv, Nat.reduceMod, ln_22, und_22, sz_60, agg_60, keep_99, E_masks, masks, rows_99, Tryz.f99, hi, ha1, ha2, hil, hia, hc, w1]
        exact ⟨_, rfl, by simp; rfl⟩
      obtain ⟨fr1, he, hk1⟩ := he
      obtain ⟨fr', g⟩ := c99loop n n0 h x all hok s hbig rest (pre ++ [i]) j fr1 (by rw [← hl]; simp) (by simp at hj; omega) hk1
      refine ⟨fr', ?_⟩
      rw [loopN_step he]
      simpa [hm] using g

def wrongs (l : List Inc) : Bool := l.any fun i => !may i

theorem c99 (n : Nat) (h : Heap) (x : AV) (all : List Inc) (hok : ∀ i ∈ all, i.ok) (s : SlV h 21 x (all.map Inc.av)) (hbig : all.length < 500) :
    ∃ r : Int, call E (n + 505) 99 [x, .fn (.func 64) [] []] h = some (.v (.int .i64 r), h, ⟨[], [], true⟩) ∧ (decide (0 ≤ r)) = wrongs all := by
  have hlen : sliceLen x = some all.length := by have := s.len; simpa using this
  obtain ⟨fr', ⟨g1, g2⟩ | ⟨r, g1, g2, g3⟩⟩ := c99loop n h.length h x all hok s (by omega) all [] (n + 504) [(0, x), (1, .fn (.func 64) [] []), (7, .v (.int .i64 all.length)), (8, .v (.int .i64 0))] rfl (by omega) rfl
  · simp -implicitDefEqProofs only [simA, Nat.reduceAdd, Nat.reduceLT, Nat.reduceEqDiff, Nat.reduceLeDiff, Nat.reduceMul, Int.reduceBEq, Int.reduceBNe, Int.reduceLT, Int.reduceLE, Int.reduceAdd, Int.reduceSub, Int.reduceMul, Int.reduceNeg, Nat.reduceSub, Nat.reducePow, Nat.reduceDiv, Nat.reduceMod, ln_22, und_22, sz_60, agg_60, keep_99, E_masks, masks, rows_99, Tryz.f99] at g1
    rw [call_at (E := E) (f := 99) (fn := Tryz.f99) rfl Tryz.func99 rfl (Nat.le_of_ble_eq_true rfl)]
    simp -implicitDefEqProofs only [simA, Nat.reduceAdd, Nat.reduceLT, Nat.reduceEqDiff, Nat.reduceLeDiff, Nat.reduceMul, Int.reduceBEq, Int.reduceBNe, Int.reduceLT, Int.reduceLE, Int.reduceAdd, Int.reduceSub, Int.reduceMul, Int.reduceNeg, Nat.reduceSub, Nat.reducePow, Nat.reduceDiv, Nat.reduceMod, ln_22, und_22, sz_60, agg_60, keep_99, E_masks, masks, rows_99, Tryz.f99, hlen, g1]
    refine ⟨_, rfl, ?_⟩
    simp [wrongs, g2]
  · simp -implicitDefEqProofs only [simA, Nat.reduceAdd, Nat.reduceLT, Nat.reduceEqDiff, Nat.reduceLeDiff, Nat.reduceMul, Int.reduceBEq, Int.reduceBNe, Int.reduceLT, Int.reduceLE, Int.reduceAdd, Int.reduceSub, Int.reduceMul, Int.reduceNeg, Nat.reduceSub, Nat.reducePow, Nat.reduceDiv, Nat.reduceMod, ln_22, und_22, sz_60, agg_60, keep_99, E_masks, masks, rows_99, Tryz.f99] at g1
    rw [call_at (E := E) (f := 99) (fn := Tryz.f99) rfl Tryz.func99 rfl (Nat.le_of_ble_eq_true rfl)]
    simp -implicitDefEqProofs only [simA, Nat.reduceAdd, Nat.reduceLT, Nat.reduceEqDiff, Nat.reduceLeDiff, Nat.reduceMul, Int.reduceBEq, Int.reduceBNe, Int.reduceLT, Int.reduceLE, Int.reduceAdd, Int.reduceSub, Int.reduceMul, Int.reduceNeg, Nat.reduceSub, Nat.reducePow, Nat.reduceDiv, Nat.reduceMod, ln_22, und_22, sz_60, agg_60, keep_99, E_masks, masks, rows_99, Tryz.f99, hlen, g1, g2]
    refine ⟨_, rfl, ?_⟩
    simp [wrongs, g3]

theorem c63 (n : Nat) (h : Heap) (x : AV) (all : List Inc) (hok : ∀ i ∈ all, i.ok) (s : SlV h 21 x (all.map Inc.av)) (hbig : all.length < 500) :
    call E (n + 506) 63 [x, .fn (.func 64) [] []] h = some (.v (.bool (wrongs all)), h, ⟨[], [], true⟩) := by
  obtain ⟨r, hc, hr⟩ := c99 n h x all hok s hbig
  rw [call_at (E := E) (f := 63) (fn := Tryz.f63) rfl Tryz.func63 rfl (Nat.le_of_ble_eq_true rfl)]
  simp -implicitDefEqProofs only [simA, Nat.reduceAdd, Nat.reduceLT, Nat.reduceEqDiff, Nat.reduceLeDiff, Nat.reduceMul, Int.reduceBEq, Int.reduceBNe, Int.reduceLT, Int.reduceLE, Int.reduceAdd, Int.reduceSub, Int.reduceMul, Int.reduceNeg, Nat.reduceSub, Nat.reducePow, Nat.reduceDiv, Nat.reduceMod, keep_63, E_masks, masks, rows_63, Tryz.f63, hc]
  rw [hr]
theorem c27 (n : Nat) (h : Heap) (x : AV) (all : List Inc) (hok : ∀ i ∈ all, i.ok) (s : SlV h 21 x (all.map Inc.av)) (hbig : all.length < 500) :
    call E (n + 507) 27 [x] h = some (.v (.bool (wrongs all)), h, ⟨[], [], true⟩) := by
  have hc := fun n => c63 n h x all hok s hbig
  rw [call_at (E := E) (f := 27) (fn := Tryz.f27) rfl Tryz.func27 rfl (Nat.le_of_ble_eq_true rfl)]
  simp -implicitDefEqProofs only [simA, Nat.reduceAdd, Nat.reduceLT, Nat.reduceEqDiff, Nat.reduceLeDiff, Nat.reduceMul, Int.reduceBEq, Int.reduceBNe, Int.reduceLT, Int.reduceLE, Int.reduceAdd, Int.reduceSub, Int.reduceMul, Int.reduceNeg, Nat.reduceSub, Nat.reducePow, Nat.reduceDiv, Nat.reduceMod, keep_27, E_masks, masks, rows_27, Tryz.f27, hc]

end Go.Proofs.YtobdjegooonklaaGreat
