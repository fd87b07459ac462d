/- Two rows of changes merged: what the program does. Conditions: none. -/
import Derived.Test.YtobdjegooonklaaGreatAmMerge1
set_option linter.defProp false
set_option linter.unusedSimpArgs false
set_option linter.unusedVariables false
set_option maxRecDepth 100000
set_option maxHeartbeats 1000000
namespace Go.Proofs.YtobdjegooonklaaGreat
open Go Go.AM

def Zf21 := And.intro (And.intro (And.intro (And.intro (And.intro (@bs_153_2_21) (@ln_22)) (And.intro (@und_22) (@sz_60))) (And.intro (And.intro (@agg_60) (@zero_60)) (And.intro (@fo_60_1) (@fo_58_0)))) (And.intro (And.intro (And.intro (@sz_55) (@agg_55)) (And.intro (@zero_108) (@sz_108))) (And.intro (And.intro (@fo_60_0) (@sz_3)) (And.intro (@agg_3) (@fo_108_1))))) (And.intro (And.intro (And.intro (And.intro (@sz_4) (@agg_4)) (And.intro (@fo_108_0) (@prs_21_13))) (And.intro (And.intro (@sz_58) (@agg_58)) (And.intro (@fo_108_2) (@agg_108)))) (And.intro (And.intro (And.intro (@ln_110) (@und_110)) (And.intro (@zero_55) (@bd_60))) (And.intro (And.intro (@bs_22_1_21) (@ap_22_22)) (And.intro (@src_22) (And.intro (@keep_21) (@rows_21))))))

def efOf (w : Bool) (i : Inc) : Ef := ⟨w, i.kind != 3, i.r⟩
def mstep (L : Eff3) (i : Inc) : Option Eff3 := match lookP L i.r.to with
  | none => some (setP L i.r.to (efOf (!(i.kind == 1)) i))
  | some e => if e.is = (i.kind == 1) then none else some (setP L i.r.to (efOf e.was i))
def mfold : Eff3 → List Inc → Option Eff3
  | L, [] => some L
  | L, i :: l => match mstep L i with
    | some L' => mfold L' l
    | none => none

theorem look_set (p : Pre) (e : Ef) : ∀ L : Eff3, lookP (setP L p e) p = some e
  | [] => by simp [setP, lookP]
  | (q, d) :: L => by
    by_cases hpq : p = q
    · simp [setP, hpq, lookP]
    · simp [setP, hpq, lookP, look_set p e L]
theorem look_ok {L : Eff3} {p : Pre} {e : Ef} (hL : ∀ q ∈ L, q.1.ok ∧ q.2.r.ok) (h : lookP L p = some e) : e.r.ok := by
  induction L with
  | nil => simp [lookP] at h
  | cons x L ih =>
    obtain ⟨q, d⟩ := x
    simp only [lookP] at h
    split at h
    · injection h with h
      subst h
      exact (hL _ (List.mem_cons_self ..)).2
    · exact ih (fun q hq => hL q (List.mem_cons_of_mem _ hq)) h

theorem round21 (n n0 : Nat) (H : Heap) (mid : Nat) (z : AV) (all : List Inc) (L : Eff3) (pre : List Inc) (i : Inc) (rest : List Inc) (hall : pre ++ i :: rest = all) (hn0 : n0 ≤ H.length) (hm0 : n0 ≤ mid) (hm : EMap H mid L) (hL : ∀ q ∈ L, q.1.ok ∧ q.2.r.ok) (hok : ∀ i ∈ all, i.ok) (sz : SlV H 21 z (all.map Inc.av)) (hbig : all.length < 490) :
    (∃ fr' L', mstep L i = some L' ∧ exec E (call E (n + 507)) (n + 507) 21 111 n0 (loopB Tryz.f21 0) ⟨[(4, nilS), (6, .map mid), (25, z), (26, .v (.int .i64 (all.length : Nat))), (27, .v (.int .i64 (pre.length : Nat)))], H, [], []⟩ = some (.normal, ⟨fr', (H ++ [Row.row 21 0 [i.av] ⟨true, 60⟩, Row.row 22 0 [((lookP L' i.r.to).getD zEf).av] ⟨true, 108⟩]).set mid (.map (entsF 0 L') L'.length), [], []⟩) ∧
      keepF (masks 21) fr' = [(4, nilS), (6, .map mid), (25, z), (26, .v (.int .i64 (all.length : Nat))), (27, .v (.int .i64 ((pre.length + 1 : Nat) : Int)))]) ∨
    (∃ fr' H', mstep L i = none ∧ exec E (call E (n + 507)) (n + 507) 21 111 n0 (loopB Tryz.f21 0) ⟨[(4, nilS), (6, .map mid), (25, z), (26, .v (.int .i64 (all.length : Nat))), (27, .v (.int .i64 (pre.length : Nat)))], H, [], []⟩ = some (.ret, ⟨fr', H', [], []⟩) ∧ AM.get fr' 4 = some nilS ∧ AM.get fr' 5 = some (.v (.int .i64 1))) := by
  have hi : ((pre.length : Int) < (all.length : Int)) := by rw [← hall]; simp; omega
  have hio : i.ok := hok i (by rw [← hall]; simp)
  obtain ⟨a, ha1, ha2⟩ := sz.at (t := 22) (e := 60) und_22 sz_60 (j := pre.length) (y := i.av) (by rw [← hall]; simp)
  have w1 := wrapN1 (n := pre.length) (by rw [← hall] at hbig; simp at hbig; omega)
  have hli : AM.leafs i.av = 21 := Inc.leafs hio
  have hai : isAggA i.av = true := rfl
  have hti : isTupA i.av = false := rfl
  have hlr : AM.leafs i.r.av = 20 := Route.leafs hio.2
  have har : isAggA i.r.av = true := rfl
  have htr : isTupA i.r.av = false := rfl
  have hlp : AM.leafs i.r.to.av = 18 := Pre.leafs hio.2.1
  have hap : isAggA i.r.to.av = true := rfl
  have hidf := idfree_inc i
  have hidr := idfree_route i.r
  have hzl : leafsL (List.replicate 16 (AV.v (.int .u8 0))) = 16 := by kernel_rfl
  have hH : ¬ H.length < n0 := by omega
  have hH1 : ¬ H.length + 1 < n0 := by omega
  have hm1 : ¬ mid < n0 := by omega
  have hmid : mid < H.length := lt_of_getElem? hm
  have m1 : EMap (H ++ [.row 21 0 [i.av] ⟨true, 60⟩]) mid L := by unfold EMap; rw [List.getElem?_append_left hmid]; exact hm
  have hL1 : ∀ q ∈ L, q.1.ok := fun q hq => (hL q hq).1
  have lu := lu_at m1 hL1 hio.2.1 true
  have hq : ¬ (H.length = H.length + 1) := by omega
  have n0' : nav i.av [0] 0 = some (.v (.int .i64 i.kind)) := rfl
  have n1' : nav i.av [1] 1 = some i.r.av := rfl
  have n2' : nav i.av [1, 0] 1 = some i.r.to.av := rfl
  cases hlk : lookP L i.r.to with
  | none =>
    left
    rw [hlk] at lu
    have hzr : AM.leafs zRoute.av = 20 := Route.leafs zRoute_ok
    have hzi := idfree_route zRoute
    have lu' : lookupE E (H ++ [.row 21 0 [i.av] ⟨true, 60⟩]) 105 (.map mid) i.r.to.av true = some (.tup [.agg [.v (.bool false), .v (.bool false), zRoute.av], .v (.bool false)]) := lu
    have m2 : EMap (H ++ [Row.row 21 0 [i.av] ⟨true, 60⟩, Row.row 22 0 [.agg [.v (.bool !(i.kind == 1)), .v (.bool (i.kind != 3)), i.r.av]] ⟨true, 108⟩]) mid L := by unfold EMap; rw [List.getElem?_append_left hmid]; exact hm
    have mu := mu_at m2 hL1 hio.2.1 (efOf (!(i.kind == 1)) i)
    have mu' : updateE E (H ++ [Row.row 21 0 [i.av] ⟨true, 60⟩, Row.row 22 0 [.agg [.v (.bool !(i.kind == 1)), .v (.bool (i.kind != 3)), i.r.av]] ⟨true, 108⟩]) 105 (.map mid) i.r.to.av (.agg [.v (.bool !(i.kind == 1)), .v (.bool (i.kind != 3)), i.r.av]) = some ((H ++ [Row.row 21 0 [i.av] ⟨true, 60⟩, Row.row 22 0 [.agg [.v (.bool !(i.kind == 1)), .v (.bool (i.kind != 3)), i.r.av]] ⟨true, 108⟩]).set mid (.map (entsF 0 (setP L i.r.to (efOf (!(i.kind == 1)) i))) (setP L i.r.to (efOf (!(i.kind == 1)) i)).length), mid) := mu
    have : ∃ fr', exec E (call E (n + 507)) (n + 507) 21 111 n0 (loopB Tryz.f21 0) ⟨[(4, nilS), (6, .map mid), (25, z), (26, .v (.int .i64 (all.length : Nat))), (27, .v (.int .i64 (pre.length : Nat)))], H, [], []⟩ = some (.normal, ⟨fr', (H ++ [Row.row 21 0 [i.av] ⟨true, 60⟩, Row.row 22 0 [.agg [.v (.bool !(i.kind == 1)), .v (.bool (i.kind != 3)), i.r.av]] ⟨true, 108⟩]).set mid (.map (entsF 0 (setP L i.r.to (efOf (!(i.kind == 1)) i))) (setP L i.r.to (efOf (!(i.kind == 1)) i)).length), [], []⟩) ∧
      keepF (masks 21) fr' = [(4, nilS), (6, .map mid), (25, z), (26, .v (.int .i64 (all.length : Nat))), (27, .v (.int .i64 ((pre.length + 1 : Nat) : Int)))] := by
      rw [exec_code]
      simp -implicitDefEqProofs only [simA, Nat.reduceAdd, Nat.reduceLT, Nat.reduceEqDiff, Nat.reduceLeDiff, Nat.reduceMul, Int.reduceBEq, Int.reduceBNe, Int.reduceLT, Int.reduceLE, Int.reduceAdd, Int.reduceSub, Int.reduceMul, Int.reduceNeg, Nat.reduceSub, Nat.reducePow, Nat.reduceDiv, Nat.reduceMod, Zf21, E_masks, masks, Tryz.f21, core_lu, core_mu, luO_some, muO_some, storeE, hi, ha1, ha2, w1, hli, hai, hti, hlr, har, htr, hlp, hap, hidf, hidr, hzl, hH, hH1, hm1, n0', n1', n2', hzr, hzi, lu', mu', eqb_4, hq, pairsOK, clsOf, compat]
      exact ⟨_, rfl, rfl⟩
    obtain ⟨fr', e1, e2⟩ := this
    refine ⟨fr', setP L i.r.to (efOf (!(i.kind == 1)) i), by simp [mstep, hlk], ?_, e2⟩
    rw [e1, look_set]
    rfl
  | some e =>
    rw [hlk] at lu
    have heo := look_ok hL hlk
    obtain ⟨ew, es, er⟩ := e
    have hzr : AM.leafs er.av = 20 := Route.leafs heo
    have hzi := idfree_route er
    have lu' : lookupE E (H ++ [.row 21 0 [i.av] ⟨true, 60⟩]) 105 (.map mid) i.r.to.av true = some (.tup [.agg [.v (.bool ew), .v (.bool es), er.av], .v (.bool true)]) := lu
    by_cases hbad : es = (i.kind == 1)
    · right
      have hb : (es == (i.kind == 1)) = true := by simp [hbad]
      have : ∃ fr' H', exec E (call E (n + 507)) (n + 507) 21 111 n0 (loopB Tryz.f21 0) ⟨[(4, nilS), (6, .map mid), (25, z), (26, .v (.int .i64 (all.length : Nat))), (27, .v (.int .i64 (pre.length : Nat)))], H, [], []⟩ = some (.ret, ⟨fr', H', [], []⟩) ∧ AM.get fr' 4 = some nilS ∧ AM.get fr' 5 = some (.v (.int .i64 1)) := by
        rw [exec_code]
        simp -implicitDefEqProofs only [simA, Nat.reduceAdd, Nat.reduceLT, Nat.reduceEqDiff, Nat.reduceLeDiff, Nat.reduceMul, Int.reduceBEq, Int.reduceBNe, Int.reduceLT, Int.reduceLE, Int.reduceAdd, Int.reduceSub, Int.reduceMul, Int.reduceNeg, Nat.reduceSub, Nat.reducePow, Nat.reduceDiv, Nat.reduceMod, Zf21, E_masks, masks, Tryz.f21, core_lu, core_mu, luO_some, muO_some, storeE, hi, ha1, ha2, w1, hli, hai, hti, hlr, har, htr, hlp, hap, hidf, hidr, hzl, hH, hH1, hm1, n0', n1', n2', hzr, hzi, lu', hb, eqb_4, hq, pairsOK, clsOf, compat]
        exact ⟨_, _, rfl, rfl, rfl⟩
      obtain ⟨fr', H', e1, e2, e3⟩ := this
      exact ⟨fr', H', by simp [mstep, hlk, hbad], e1, e2, e3⟩
    · left
      have hb : (es == (i.kind == 1)) = false := by simpa using hbad
      have m2 : EMap (H ++ [Row.row 21 0 [i.av] ⟨true, 60⟩, Row.row 22 0 [.agg [.v (.bool ew), .v (.bool (i.kind != 3)), i.r.av]] ⟨true, 108⟩]) mid L := by unfold EMap; rw [List.getElem?_append_left hmid]; exact hm
      have mu' : updateE E (H ++ [Row.row 21 0 [i.av] ⟨true, 60⟩, Row.row 22 0 [.agg [.v (.bool ew), .v (.bool (i.kind != 3)), i.r.av]] ⟨true, 108⟩]) 105 (.map mid) i.r.to.av (.agg [.v (.bool ew), .v (.bool (i.kind != 3)), i.r.av]) = some ((H ++ [Row.row 21 0 [i.av] ⟨true, 60⟩, Row.row 22 0 [.agg [.v (.bool ew), .v (.bool (i.kind != 3)), i.r.av]] ⟨true, 108⟩]).set mid (.map (entsF 0 (setP L i.r.to (efOf ew i))) (setP L i.r.to (efOf ew i)).length), mid) := mu_at m2 hL1 hio.2.1 (efOf ew i)
      have : ∃ fr', exec E (call E (n + 507)) (n + 507) 21 111 n0 (loopB Tryz.f21 0) ⟨[(4, nilS), (6, .map mid), (25, z), (26, .v (.int .i64 (all.length : Nat))), (27, .v (.int .i64 (pre.length : Nat)))], H, [], []⟩ = some (.normal, ⟨fr', (H ++ [Row.row 21 0 [i.av] ⟨true, 60⟩, Row.row 22 0 [.agg [.v (.bool ew), .v (.bool (i.kind != 3)), i.r.av]] ⟨true, 108⟩]).set mid (.map (entsF 0 (setP L i.r.to (efOf ew i))) (setP L i.r.to (efOf ew i)).length), [], []⟩) ∧
        keepF (masks 21) fr' = [(4, nilS), (6, .map mid), (25, z), (26, .v (.int .i64 (all.length : Nat))), (27, .v (.int .i64 ((pre.length + 1 : Nat) : Int)))] := by
        rw [exec_code]
        simp -implicitDefEqProofs only [simA, Nat.reduceAdd, Nat.reduceLT, Nat.reduceEqDiff, Nat.reduceLeDiff, Nat.reduceMul, Int.reduceBEq, Int.reduceBNe, Int.reduceLT, Int.reduceLE, Int.reduceAdd, Int.reduceSub, Int.reduceMul, Int.reduceNeg, Nat.reduceSub, Nat.reducePow, Nat.reduceDiv, Nat.reduceMod, Zf21, E_masks, masks, Tryz.f21, core_lu, core_mu, luO_some, muO_some, storeE, hi, ha1, ha2, w1, hli, hai, hti, hlr, har, htr, hlp, hap, hidf, hidr, hzl, hH, hH1, hm1, n0', n1', n2', hzr, hzi, lu', mu', hb, eqb_4, hq, pairsOK, clsOf, compat]
        exact ⟨_, rfl, rfl⟩
      obtain ⟨fr', e1, e2⟩ := this
      refine ⟨fr', setP L i.r.to (efOf ew i), by simp [mstep, hlk, hbad], ?_, e2⟩
      rw [e1, look_set]
      rfl

theorem setP_mem {p : Pre} {e : Ef} : ∀ {L : Eff3} {q : Pre × Ef}, q ∈ setP L p e → q ∈ L ∨ q = (p, e)
  | [], q, h => by simpa [setP] using h
  | (a, d) :: L, q, h => by
    simp only [setP] at h
    split at h
    · rcases List.mem_cons.1 h with h | h
      · exact .inr h
      · exact .inl (List.mem_cons_of_mem _ h)
    · rcases List.mem_cons.1 h with h | h
      · exact .inl (by simp [h])
      · rcases setP_mem h with h | h
        · exact .inl (List.mem_cons_of_mem _ h)
        · exact .inr h
theorem setP_keys {p : Pre} {e : Ef} : ∀ {L : Eff3}, (L.map (·.1)).Nodup → ((setP L p e).map (·.1)).Nodup ∧ ∀ a, a ∈ (setP L p e).map (·.1) ↔ a ∈ L.map (·.1) ∨ a = p
  | [], _ => by simp [setP]
  | (q, d) :: L, h => by
    obtain ⟨h1, h2⟩ := List.nodup_cons.1 h
    by_cases hpq : p = q
    · subst hpq
      simp only [setP, if_true]
      refine ⟨h, fun a => ?_⟩
      simp only [List.map_cons, List.mem_cons]
      constructor
      · rintro (rfl | h)
        · exact .inr rfl
        · exact .inl (.inr h)
      · rintro ((rfl | h) | rfl)
        · exact .inl rfl
        · exact .inr h
        · exact .inl rfl
    · obtain ⟨g1, g2⟩ := setP_keys (p := p) (e := e) h2
      simp only [setP, if_neg hpq, List.map_cons]
      refine ⟨List.nodup_cons.2 ⟨fun hm => ?_, g1⟩, fun a => ?_⟩
      · rcases (g2 q).1 hm with hm | hm
        · exact h1 hm
        · exact hpq hm.symm
      · simp only [List.mem_cons, g2 a]
        constructor
        · rintro (h | h | h)
          · exact .inl (.inl h)
          · exact .inl (.inr h)
          · exact .inr h
        · rintro ((h | h) | h)
          · exact .inl h
          · exact .inr (.inl h)
          · exact .inr (.inr h)
theorem setP_len {p : Pre} {e : Ef} : ∀ (L : Eff3), (setP L p e).length ≤ L.length + 1
  | [] => by simp [setP]
  | (q, d) :: L => by
    simp only [setP]
    split
    · simp
    · have := setP_len (p := p) (e := e) L
      simp only [List.length_cons]
      omega

/-- A map of effects that is well made. -/
structure Wm (L : Eff3) : Prop where
  ok : ∀ q ∈ L, q.1.ok ∧ q.2.r.ok
  nodup : (L.map (·.1)).Nodup
theorem Wm.nil : Wm [] := ⟨by simp, by simp⟩
theorem Wm.set {L : Eff3} (w : Wm L) {p : Pre} {e : Ef} (hp : p.ok) (he : e.r.ok) : Wm (setP L p e) := by
  refine ⟨fun q hq => ?_, (setP_keys w.nodup).1⟩
  rcases setP_mem hq with hq | rfl
  · exact w.ok q hq
  · exact ⟨hp, he⟩
theorem Wm.step {L L' : Eff3} (w : Wm L) {i : Inc} (hi : i.ok) (h : mstep L i = some L') : Wm L' ∧ L'.length ≤ L.length + 1 := by
  unfold mstep at h
  split at h
  · injection h with h; subst h; exact ⟨w.set hi.2.1 hi.2, setP_len L⟩
  · split at h
    · cases h
    · injection h with h; subst h; exact ⟨w.set hi.2.1 hi.2, setP_len L⟩

theorem SlV.stay_but {h h' : Heap} {k mid : Nat} {x : AV} {ys : List AV} (s : SlV h k x ys) (hx : ∀ g o l, x ≠ .sl mid g o l) (hh : ∀ id, id < h.length → id ≠ mid → h'[id]? = h[id]?) : SlV h' k x ys := by
  rcases s with s | s | ⟨id, gen, ex, hx', hr⟩
  · exact .inl s
  · exact .inr (.inl s)
  · refine .inr (.inr ⟨id, gen, ex, hx', ?_⟩)
    rw [hh id (List.getElem?_eq_some_iff.1 hr).1 fun e => hx gen 0 ys.length (by rw [hx', e])]
    exact hr

theorem loop21 (n n0 mid : Nat) (z : AV) (all : List Inc) (hm0 : n0 ≤ mid) (hok : ∀ i ∈ all, i.ok) (hbig : all.length < 490) (hzm : ∀ g o l, z ≠ .sl mid g o l) : ∀ (rest pre : List Inc) (j : Nat) (fr : FR) (H : Heap) (L : Eff3), pre ++ rest = all → rest.length < j → n0 ≤ H.length → EMap H mid L → Wm L → SlV H 21 z (all.map Inc.av) → L.length ≤ pre.length →
    keepF (masks 21) fr = [(4, nilS), (6, .map mid), (25, z), (26, .v (.int .i64 (all.length : Nat))), (27, .v (.int .i64 (pre.length : Nat)))] →
    (∃ fr' H' L', mfold L rest = some L' ∧ loopN (exec E (call E (n + 507)) (n + 507) 21 111 n0 (loopB Tryz.f21 0)) (masks 21) j ⟨fr, H, [], []⟩ = some (.exit 0, ⟨fr', H', [], []⟩) ∧ AM.get fr' 4 = some nilS ∧ AM.get fr' 6 = some (.map mid) ∧ AM.get fr' 25 = some z ∧ AM.get fr' 26 = some (.v (.int .i64 (all.length : Nat))) ∧ AM.get fr' 27 = some (.v (.int .i64 (all.length : Nat))) ∧ AM.get fr' 69 = none ∧ AM.get fr' 70 = none ∧ AM.get fr' 71 = none ∧
      EMap H' mid L' ∧ Wm L' ∧ n0 ≤ H'.length ∧ L'.length ≤ all.length) ∨
    (∃ fr' H', mfold L rest = none ∧ loopN (exec E (call E (n + 507)) (n + 507) 21 111 n0 (loopB Tryz.f21 0)) (masks 21) j ⟨fr, H, [], []⟩ = some (.ret, ⟨fr', H', [], []⟩) ∧ AM.get fr' 4 = some nilS ∧ AM.get fr' 5 = some (.v (.int .i64 1)))
  | [], pre, j, fr, H, L, h1, hj, hn0, hm, w, sz, hl, hk => by
    obtain ⟨j, rfl⟩ : ∃ i, j = i + 1 := ⟨j - 1, by simp at hj; omega⟩
    have hpl : pre.length = all.length := by rw [← h1]; simp
    have hi : ¬ ((pre.length : Int) < (all.length : Int)) := by omega
    have he : ∃ fr', exec E (call E (n + 507)) (n + 507) 21 111 n0 (loopB Tryz.f21 0) ⟨[(4, nilS), (6, .map mid), (25, z), (26, .v (.int .i64 (all.length : Nat))), (27, .v (.int .i64 (pre.length : Nat)))], H, [], []⟩ = some (.exit 0, ⟨fr', H, [], []⟩) ∧ AM.get fr' 4 = some nilS ∧ AM.get fr' 6 = some (.map mid) ∧ AM.get fr' 25 = some z ∧ AM.get fr' 26 = some (.v (.int .i64 (all.length : Nat))) ∧ AM.get fr' 27 = some (.v (.int .i64 (pre.length : Nat))) ∧ AM.get fr' 69 = none ∧ AM.get fr' 70 = none ∧ AM.get fr' 71 = none := by
      rw [exec_code]
      simp -implicitDefEqProofs only [simA, Nat.reduceAdd, Nat.reduceLT, Nat.reduceEqDiff, Nat.reduceLeDiff, Nat.reduceMul, Int.reduceBEq, Int.reduceBNe, Int.reduceLT, Int.reduceLE, Int.reduceAdd, Int.reduceSub, Int.reduceMul, Int.reduceNeg, Nat.reduceSub, Nat.reducePow, Nat.reduceDiv, Nat.reduceMod, Zf21, E_masks, masks, Tryz.f21, hi]
      exact ⟨_, rfl, rfl, rfl, rfl, rfl, rfl, rfl, rfl, rfl⟩
    obtain ⟨fr', e1, g4, g6, g25, g26, g27, g69, g70, g71⟩ := he
    rw [hpl] at g27
    exact .inl ⟨fr', H, L, rfl, loopN_outK hk e1, g4, g6, g25, g26, g27, g69, g70, g71, hm, w, hn0, by omega⟩
  | i :: rest, pre, j, fr, H, L, h1, hj, hn0, hm, w, sz, hl, hk => by
    obtain ⟨j, rfl⟩ : ∃ i, j = i + 1 := ⟨j - 1, by simp at hj; omega⟩
    have hio : i.ok := hok i (by rw [← h1]; simp)
    have hmid : mid < H.length := lt_of_getElem? hm
    rcases round21 n n0 H mid z all L pre i rest h1 hn0 hm0 hm w.ok hok sz hbig with ⟨fr1, L1, q1, e1, k1⟩ | ⟨fr1, H1, q1, e1, g4, g5⟩
    · obtain ⟨w1, l1⟩ := w.step hio q1
      rw [loopN_stepK hk e1]
      have hm1 : EMap ((H ++ [Row.row 21 0 [i.av] ⟨true, 60⟩, Row.row 22 0 [((lookP L1 i.r.to).getD zEf).av] ⟨true, 108⟩]).set mid (.map (entsF 0 L1) L1.length)) mid L1 := by
        unfold EMap
        rw [List.getElem?_set_self (by simp; omega)]
      have sz1 := sz.stay_but (h' := (H ++ [Row.row 21 0 [i.av] ⟨true, 60⟩, Row.row 22 0 [((lookP L1 i.r.to).getD zEf).av] ⟨true, 108⟩]).set mid (.map (entsF 0 L1) L1.length)) hzm fun id hid hne => by
        rw [List.getElem?_set_ne (fun e => hne e.symm), List.getElem?_append_left hid]
      have := loop21 n n0 mid z all hm0 hok hbig hzm rest (pre ++ [i]) j fr1 _ L1 (by rw [← h1]; simp) (by simp at hj; omega) (by simp; omega) hm1 w1 sz1 (by simp; omega) (by rw [k1]; simp)
      simp only [mfold, q1]
      exact this
    · exact .inr ⟨fr1, H1, by simp [mfold, q1], loopN_retK hk e1, g4, g5⟩

/-! ### The keys in order -/
def emit (e : Ef) : List Inc := if e.was = true then (if e.is = true then [⟨2, e.r⟩] else [⟨3, e.r⟩]) else if e.is = true then [⟨1, e.r⟩] else []
def emits (L : Eff3) (ks : List Pre) : List Inc := ks.flatMap fun p => emit ((lookP L p).getD zEf)

/-- A slice that grows by appending, in a row of its own from a place on. -/
def OutI (m0 : Nat) (H : Heap) (els : List AV) (x : AV) : Prop := (els = [] ∧ x = nilS) ∨ (els ≠ [] ∧ ∃ id g, m0 ≤ id ∧ x = .sl id g 0 els.length ∧ H[id]? = some (.row 21 g els ⟨false, 60⟩))
theorem OutI.len {m0 : Nat} {H : Heap} {els : List AV} {x : AV} (o : OutI m0 H els x) : sliceLen x = some els.length := by
  rcases o with ⟨rfl, rfl⟩ | ⟨_, id, g, _, rfl, _⟩ <;> rfl
theorem OutI.push {m0 : Nat} {H : Heap} {els : List AV} {x : AV} (o : OutI m0 H els x) (k : Heap) : OutI m0 (H ++ k) els x := by
  rcases o with ⟨rfl, rfl⟩ | ⟨h, id, g, h1, rfl, h2⟩
  · exact .inl ⟨rfl, rfl⟩
  · exact .inr ⟨h, id, g, h1, rfl, by rw [List.getElem?_append_left (lt_of_getElem? h2)]; exact h2⟩
theorem OutI.app {m0 : Nat} {H : Heap} {els : List AV} {x : AV} (o : OutI m0 H els x) (hm : m0 ≤ H.length) (y : AV) (hy : idfree y = true) : ∃ x' H' s c, appendTo H 60 21 x [y] = some (x', H', s, c) ∧ (s = none ∨ ∃ id, m0 ≤ id ∧ s = some (id, false)) ∧ OutI m0 H' (els ++ [y]) x' ∧ m0 ≤ H'.length ∧ ∀ j, j < m0 → H'[j]? = H[j]? := by
  rcases o with ⟨rfl, rfl⟩ | ⟨hne, id, g, h1, rfl, h2⟩
  · exact ⟨.sl H.length 0 0 1, H ++ [.row 21 0 [y] ⟨false, 60⟩], none, .st H.length, rfl, .inl rfl, .inr ⟨by simp, H.length, 0, hm, rfl, by simp⟩, by simp; omega, fun j hj => List.getElem?_append_left (by omega)⟩
  · have := app_new (h := H) (id := id) (gen := g) (len := els.length) (k := 21) (e := 60) (xs := [y]) (els := els) (ex := ⟨false, 60⟩) h2 rfl rfl (by simp)
    refine ⟨_, _, _, _, this, .inr ⟨id, h1, by simp [idfreeL, hy]⟩, .inr ⟨by simp, id, g + 1, h1, by simp, by rw [List.getElem?_set_self (lt_of_getElem? h2)]⟩, by simpa using hm, fun j hj => by rw [List.getElem?_set_ne (by omega)]⟩
theorem OutI.frz {m0 n0 : Nat} {H : Heap} {els : List AV} {x : AV} (o : OutI m0 H els x) (hn : n0 ≤ m0) (hid : idfreeL els = true) : (els = [] ∧ x = nilS) ∨ (els ≠ [] ∧ AM.frz n0 H x = some (.lit 21 false els)) := by
  rcases o with h | ⟨hne, id, g, h1, rfl, h2⟩
  · exact .inl h
  · right
    have hlt : ¬ id < n0 := by omega
    have : elsOf H (.sl id g 0 els.length) = some (21, els) := by simp [elsOf, h2, bleE]
    exact ⟨hne, by simp [AM.frz, bltE, hlt, this, hid]⟩

theorem round21b (n n0 m0 mid kid : Nat) (H : Heap) (z t4 : AV) (L : Eff3) (out : List Inc) (len : Int) (ks pre rest : List Pre) (p : Pre) (hks : pre ++ p :: rest = ks) (hn0 : n0 ≤ m0) (hm0 : m0 ≤ H.length) (hmid : mid < m0) (hm : EMap H mid L) (w : Wm L) (hkid : H[kid]? = some (.row 18 0 (ks.map Pre.av) ⟨false, 55⟩)) (hkm : kid < m0) (hp : p.ok) (hbig : ks.length < 490) (hol : out.length < 490) (o : OutI m0 H (out.map Inc.av) t4) :
    ∃ fr' H' t', exec E (call E (n + 507)) (n + 507) 21 111 n0 (loopB Tryz.f21 1) ⟨[(4, t4), (6, .map mid), (25, z), (26, .v (.int .i64 len)), (27, .v (.int .i64 len)), (69, .sl kid 0 0 ks.length), (70, .v (.int .i64 (ks.length : Nat))), (71, .v (.int .i64 (pre.length : Nat)))], H, [], []⟩ = some (.normal, ⟨fr', H', [], []⟩) ∧
      keepF (masks 21) fr' = [(4, t'), (6, .map mid), (25, z), (26, .v (.int .i64 len)), (27, .v (.int .i64 len)), (69, .sl kid 0 0 ks.length), (70, .v (.int .i64 (ks.length : Nat))), (71, .v (.int .i64 ((pre.length + 1 : Nat) : Int)))] ∧
      OutI m0 H' ((out ++ emit ((lookP L p).getD zEf)).map Inc.av) t' ∧ m0 ≤ H'.length ∧ ∀ j, j < m0 → H'[j]? = H[j]? := by
  have hi : ((pre.length : Int) < (ks.length : Int)) := by rw [← hks]; simp; omega
  have hpl : pre.length < ks.length := by omega
  have w1 := wrapN1 (n := pre.length) (by omega)
  have hlp : AM.leafs p.av = 18 := Pre.leafs hp
  have hap : isAggA p.av = true := rfl
  have htp : isTupA p.av = false := rfl
  have hidp : idfree p.av = true := by simp [Pre.av, idfree, idfreeL, Zfu]
  have hzl : leafsL (List.replicate 16 (AV.v (.int .u8 0))) = 16 := by kernel_rfl
  have ge : (ks.map Pre.av)[pre.length]? = some p.av := by rw [← hks]; simp
  have ia : indexAddrE E.P H 110 (.sl kid 0 0 ks.length) (.v (.int .i64 (pre.length : Nat))) = some (.ptr kid 0 pre.length [] 0) := by
    have h1 : (0 : Int) ≤ pre.length := by omega
    simp [indexAddrE, und_110, sz_55, idx, hi, hkid]
  have hH : ¬ H.length < n0 := by omega
  have hH1 : ¬ H.length + 1 < n0 := by omega
  have hq : ¬ (H.length = H.length + 1) := by omega
  obtain ⟨ew, es, er, he⟩ : ∃ ew es er, (lookP L p).getD zEf = ⟨ew, es, er⟩ := ⟨_, _, _, rfl⟩
  have heo : er.ok := by
    cases hlk : lookP L p with
    | none => rw [hlk] at he; have e2 : zEf = ⟨ew, es, er⟩ := he; have e3 : zRoute = er := congrArg Ef.r e2; rw [← e3]; exact zRoute_ok
    | some e => rw [hlk] at he; have e2 : e = ⟨ew, es, er⟩ := he; subst e2; exact look_ok w.ok hlk
  have m1 : EMap (H ++ [Row.row 18 0 [p.av] ⟨true, 55⟩]) mid L := by unfold EMap; rw [List.getElem?_append_left (by omega)]; exact hm
  have lu := lu_at m1 (fun q hq => (w.ok q hq).1) hp false
  rw [he] at lu
  have lu' : lookupE E (H ++ [.row 18 0 [p.av] ⟨true, 55⟩]) 105 (.map mid) p.av false = some (.agg [.v (.bool ew), .v (.bool es), er.av]) := lu
  have hzr : AM.leafs er.av = 20 := Route.leafs heo
  have hzi := idfree_route er
  have har : isAggA er.av = true := rfl
  have htr : isTupA er.av = false := rfl
  have hsl : sliceLen t4 = some out.length := by rw [o.len]; simp
  have hby : (out.length + 1) * 56 ≤ 140737488355328 := by omega
  have o2 := o.push [Row.row 18 0 [p.av] ⟨true, 55⟩, Row.row 22 0 [.agg [.v (.bool ew), .v (.bool es), er.av]] ⟨true, 108⟩]
  have hidi : ∀ k : Int, idfree (.agg [.v (.int .i64 k), er.av]) = true := fun k => by simp [idfree, idfreeL, hzi]
  have key : ∀ k : Int, ∃ x' H' s c, appendTo (H ++ [Row.row 18 0 [p.av] ⟨true, 55⟩, Row.row 22 0 [.agg [.v (.bool ew), .v (.bool es), er.av]] ⟨true, 108⟩]) 60 21 t4 [.agg [.v (.int .i64 k), er.av]] = some (x', H', s, c) ∧ (s = none ∨ ∃ id, m0 ≤ id ∧ s = some (id, false)) ∧ OutI m0 H' ((out ++ [(⟨k, er⟩ : Inc)]).map Inc.av) x' ∧ m0 ≤ H'.length ∧ ∀ j, j < m0 → H'[j]? = H[j]? := fun k => by
    obtain ⟨x', H', s, c, a1, a2, a3, a4, a5⟩ := o2.app (by simp; omega) (.agg [.v (.int .i64 k), er.av]) (hidi k)
    refine ⟨x', H', s, c, a1, a2, by rw [List.map_append]; exact a3, a4, fun j hj => ?_⟩
    rw [a5 j hj, List.getElem?_append_left (by omega)]
  rw [exec_code]
  cases ew with
  | true =>
    cases es with
    | true =>
      obtain ⟨x', H', s, c, a1, a2, a3, a4, a5⟩ := key 2
      rcases a2 with rfl | ⟨id, hid, rfl⟩
      · simp -implicitDefEqProofs only [simA, Nat.reduceAdd, Nat.reduceLT, Nat.reduceEqDiff, Nat.reduceLeDiff, Nat.reduceMul, Int.reduceBEq, Int.reduceBNe, Int.reduceLT, Int.reduceLE, Int.reduceAdd, Int.reduceSub, Int.reduceMul, Int.reduceNeg, Nat.reduceSub, Nat.reducePow, Nat.reduceDiv, Nat.reduceMod, Zf21, E_masks, masks, Tryz.f21, core_lu, luO_some, storeE, hi, ia, hkid, ge, w1, hlp, hap, htp, hidp, hzl, hH, hH1, hzr, hzi, har, htr, lu', hsl, hby, a1, hq, eqb_4, pairsOK, clsOf, compat]
        exact ⟨_, _, _, rfl, rfl, by simpa [emit, he] using a3, a4, a5⟩
      · have hd : ¬ id < n0 := by omega
        simp -implicitDefEqProofs only [simA, Nat.reduceAdd, Nat.reduceLT, Nat.reduceEqDiff, Nat.reduceLeDiff, Nat.reduceMul, Int.reduceBEq, Int.reduceBNe, Int.reduceLT, Int.reduceLE, Int.reduceAdd, Int.reduceSub, Int.reduceMul, Int.reduceNeg, Nat.reduceSub, Nat.reducePow, Nat.reduceDiv, Nat.reduceMod, Zf21, E_masks, masks, Tryz.f21, core_lu, luO_some, storeE, hi, ia, hkid, ge, w1, hlp, hap, htp, hidp, hzl, hH, hH1, hzr, hzi, har, htr, lu', hsl, hby, a1, hd, hq, eqb_4, pairsOK, clsOf, compat]
        exact ⟨_, _, _, rfl, rfl, by simpa [emit, he] using a3, a4, a5⟩
    | false =>
      obtain ⟨x', H', s, c, a1, a2, a3, a4, a5⟩ := key 3
      rcases a2 with rfl | ⟨id, hid, rfl⟩
      · simp -implicitDefEqProofs only [simA, Nat.reduceAdd, Nat.reduceLT, Nat.reduceEqDiff, Nat.reduceLeDiff, Nat.reduceMul, Int.reduceBEq, Int.reduceBNe, Int.reduceLT, Int.reduceLE, Int.reduceAdd, Int.reduceSub, Int.reduceMul, Int.reduceNeg, Nat.reduceSub, Nat.reducePow, Nat.reduceDiv, Nat.reduceMod, Zf21, E_masks, masks, Tryz.f21, core_lu, luO_some, storeE, hi, ia, hkid, ge, w1, hlp, hap, htp, hidp, hzl, hH, hH1, hzr, hzi, har, htr, lu', hsl, hby, a1, hq, eqb_4, pairsOK, clsOf, compat]
        exact ⟨_, _, _, rfl, rfl, by simpa [emit, he] using a3, a4, a5⟩
      · have hd : ¬ id < n0 := by omega
        simp -implicitDefEqProofs only [simA, Nat.reduceAdd, Nat.reduceLT, Nat.reduceEqDiff, Nat.reduceLeDiff, Nat.reduceMul, Int.reduceBEq, Int.reduceBNe, Int.reduceLT, Int.reduceLE, Int.reduceAdd, Int.reduceSub, Int.reduceMul, Int.reduceNeg, Nat.reduceSub, Nat.reducePow, Nat.reduceDiv, Nat.reduceMod, Zf21, E_masks, masks, Tryz.f21, core_lu, luO_some, storeE, hi, ia, hkid, ge, w1, hlp, hap, htp, hidp, hzl, hH, hH1, hzr, hzi, har, htr, lu', hsl, hby, a1, hd, hq, eqb_4, pairsOK, clsOf, compat]
        exact ⟨_, _, _, rfl, rfl, by simpa [emit, he] using a3, a4, a5⟩
  | false =>
    cases es with
    | true =>
      obtain ⟨x', H', s, c, a1, a2, a3, a4, a5⟩ := key 1
      rcases a2 with rfl | ⟨id, hid, rfl⟩
      · simp -implicitDefEqProofs only [simA, Nat.reduceAdd, Nat.reduceLT, Nat.reduceEqDiff, Nat.reduceLeDiff, Nat.reduceMul, Int.reduceBEq, Int.reduceBNe, Int.reduceLT, Int.reduceLE, Int.reduceAdd, Int.reduceSub, Int.reduceMul, Int.reduceNeg, Nat.reduceSub, Nat.reducePow, Nat.reduceDiv, Nat.reduceMod, Zf21, E_masks, masks, Tryz.f21, core_lu, luO_some, storeE, hi, ia, hkid, ge, w1, hlp, hap, htp, hidp, hzl, hH, hH1, hzr, hzi, har, htr, lu', hsl, hby, a1, hq, eqb_4, pairsOK, clsOf, compat]
        exact ⟨_, _, _, rfl, rfl, by simpa [emit, he] using a3, a4, a5⟩
      · have hd : ¬ id < n0 := by omega
        simp -implicitDefEqProofs only [simA, Nat.reduceAdd, Nat.reduceLT, Nat.reduceEqDiff, Nat.reduceLeDiff, Nat.reduceMul, Int.reduceBEq, Int.reduceBNe, Int.reduceLT, Int.reduceLE, Int.reduceAdd, Int.reduceSub, Int.reduceMul, Int.reduceNeg, Nat.reduceSub, Nat.reducePow, Nat.reduceDiv, Nat.reduceMod, Zf21, E_masks, masks, Tryz.f21, core_lu, luO_some, storeE, hi, ia, hkid, ge, w1, hlp, hap, htp, hidp, hzl, hH, hH1, hzr, hzi, har, htr, lu', hsl, hby, a1, hd, hq, eqb_4, pairsOK, clsOf, compat]
        exact ⟨_, _, _, rfl, rfl, by simpa [emit, he] using a3, a4, a5⟩
    | false =>
      simp -implicitDefEqProofs only [simA, Nat.reduceAdd, Nat.reduceLT, Nat.reduceEqDiff, Nat.reduceLeDiff, Nat.reduceMul, Int.reduceBEq, Int.reduceBNe, Int.reduceLT, Int.reduceLE, Int.reduceAdd, Int.reduceSub, Int.reduceMul, Int.reduceNeg, Nat.reduceSub, Nat.reducePow, Nat.reduceDiv, Nat.reduceMod, Zf21, E_masks, masks, Tryz.f21, core_lu, luO_some, storeE, hi, ia, hkid, ge, w1, hlp, hap, htp, hidp, hzl, hH, hH1, hzr, hzi, har, htr, lu', hq, eqb_4, pairsOK, clsOf, compat]
      exact ⟨_, _, _, rfl, rfl, by simpa [emit, he] using o2, by simp; omega, fun j hj => by rw [List.getElem?_append_left (by omega)]⟩

end Go.Proofs.YtobdjegooonklaaGreat
