/- What the prefix package does. Conditions: none. -/
import Derived.Test.YtobdjegooonklaaGreatAmTypes2
set_option linter.unusedSimpArgs false
set_option linter.unusedVariables false
namespace Go.Proofs.YtobdjegooonklaaGreat
open Go Go.AM

def width (six : Bool) : Int := if six then 128 else 32
theorem c101 (n : Nat) (six : Bool) (h : Heap) : call E (n + 500) 101 [.v (.bool six)] h = some (.v (.int .i64 (width six)), h, ⟨[], [], true⟩) := by
  rw [call_at (E := E) (f := 101) (fn := Tryz.f101) rfl Tryz.func101 rfl (Nat.le_of_ble_eq_true rfl)]
  cases six <;> simp -implicitDefEqProofs only [simA, Nat.reduceAdd, Nat.reduceLT, Nat.reduceEqDiff, Nat.reduceLeDiff, Nat.reduceMul, Int.reduceBEq, Int.reduceBNe, Int.reduceLT, Int.reduceLE, Int.reduceAdd, Int.reduceSub, Int.reduceMul, Int.reduceNeg, Nat.reduceSub, Nat.reducePow, Nat.reduceDiv, Nat.reduceMod, keep_101, E_masks, masks, rows_101, Tryz.f101, width] <;> rfl
theorem c81 (n : Nat) (six : Bool) (h : Heap) : call E (n + 500) 81 [.v (.bool six)] h = some (.v (.int .i64 (width six)), h, ⟨[], [], true⟩) := by
  rw [call_at (E := E) (f := 81) (fn := Tryz.f81) rfl Tryz.func81 rfl (Nat.le_of_ble_eq_true rfl)]
  cases six <;> simp -implicitDefEqProofs only [simA, Nat.reduceAdd, Nat.reduceLT, Nat.reduceEqDiff, Nat.reduceLeDiff, Nat.reduceMul, Int.reduceBEq, Int.reduceBNe, Int.reduceLT, Int.reduceLE, Int.reduceAdd, Int.reduceSub, Int.reduceMul, Int.reduceNeg, Nat.reduceSub, Nat.reducePow, Nat.reduceDiv, Nat.reduceMod, keep_81, E_masks, masks, rows_81, Tryz.f81, width] <;> rfl
def kindOf (six : Bool) : Int := if six then 1 else 0
theorem c69 (n : Nat) (p : Pre) (hp : p.ok) (h : Heap) : call E (n + 500) 69 [p.av] h = some (.v (.int .i64 (kindOf p.six)), h, ⟨[], [], true⟩) := by
  obtain ⟨six, ad, len⟩ := p
  have hl : leafsL (ofBytes ad) = 16 := by rw [leafs_ofBytes]; exact hp.1
  rw [call_at (E := E) (f := 69) (fn := Tryz.f69) rfl Tryz.func69 rfl (Nat.le_of_ble_eq_true rfl)]
  cases six <;> simp -implicitDefEqProofs only [simA, Nat.reduceAdd, Nat.reduceLT, Nat.reduceEqDiff, Nat.reduceLeDiff, Nat.reduceMul, Int.reduceBEq, Int.reduceBNe, Int.reduceLT, Int.reduceLE, Int.reduceAdd, Int.reduceSub, Int.reduceMul, Int.reduceNeg, Nat.reduceSub, Nat.reducePow, Nat.reduceDiv, Nat.reduceMod, fo_55_0, sz_4, agg_4, keep_69, E_masks, masks, rows_69, Tryz.f69, kindOf, Pre.av, hl] <;> rfl

def cut (r : Nat) (b : UInt8) : UInt8 := UInt8.ofNat (b.toNat / 2 ^ (8 - r) * 2 ^ (8 - r))
def mask1 (m : Int) (i : Nat) (b : UInt8) : UInt8 := if m - 8 * i ≤ 0 then 0 else if m - 8 * i < 8 then cut (m - 8 * i).toNat b else b
def maskF (m : Int) : Nat → List UInt8 → List UInt8
  | _, [] => []
  | i, b :: l => mask1 m i b :: maskF m (i + 1) l
theorem maskF_len (m : Int) : ∀ (l : List UInt8) (i : Nat), (maskF m i l).length = l.length
  | [], _ => rfl
  | b :: l, i => by simp [maskF, maskF_len m l]

theorem cut_bits : ∀ r : Fin 8, ∀ b : Fin 256, r.val = 0 ∨ IntKind.u8.wrap ((BitVec.ofInt IntKind.u8.bits (b.val : Int) &&& BitVec.ofInt IntKind.u8.bits (IntKind.u8.wrap (255 * 2 ^ (min (8 - (r.val : Int)).toNat IntKind.u8.bits)))).toNat) = ((b.val / 2 ^ (8 - r.val) * 2 ^ (8 - r.val) : Nat) : Int) := by decide +kernel
theorem and_cut {r : Nat} {b : UInt8} (h1 : 0 < r) (h2 : r < 8) : IntKind.u8.wrap ((BitVec.ofInt IntKind.u8.bits (b.toNat : Int) &&& BitVec.ofInt IntKind.u8.bits (IntKind.u8.wrap (255 * 2 ^ (min (8 - (r : Int)).toNat IntKind.u8.bits)))).toNat) = ((cut r b).toNat : Int) := by
  rcases cut_bits ⟨r, h2⟩ ⟨b.toNat, b.toNat_lt⟩ with h | h
  · simp at h; omega
  · rw [h]
    unfold cut
    rw [UInt8.toNat_ofNat']
    have := b.toNat_lt
    have h3 : b.toNat / 2 ^ (8 - r) * 2 ^ (8 - r) ≤ b.toNat := Nat.div_mul_le_self _ _
    have : (b.toNat / 2 ^ (8 - r) * 2 ^ (8 - r)) % 2 ^ 8 = b.toNat / 2 ^ (8 - r) * 2 ^ (8 - r) := Nat.mod_eq_of_lt (by omega)
    rw [this]

theorem round102 (n : Nat) (h : Heap) (m : Int) (i : Nat) (l : List UInt8) (b : UInt8) (r2 : Row) (hl : l.length = 16) (hb : l[i]? = some b) (hm : 0 ≤ m) (hm2 : m ≤ 128) :
    ∃ fr, exec E (call E (n + 499)) (n + 499) 102 30 h.length (loopB Tryz.f102 0) ⟨[(1, .v (.int .i64 m)), (2, .ptr h.length 0 0 [] 0), (4, .ptr (h.length + 1) 0 0 [] 0), (7, .v (.int .i64 i))], h ++ [.row 16 0 [.agg (ofBytes l)] ⟨true, 53⟩, r2], [], []⟩ =
      some (.normal, ⟨fr, h ++ [.row 16 0 [.agg (ofBytes (l.set i (mask1 m i b)))] ⟨true, 53⟩, r2], [], []⟩) ∧ keepF (masks 102) fr = [(1, .v (.int .i64 m)), (2, .ptr h.length 0 0 [] 0), (4, .ptr (h.length + 1) 0 0 [] 0), (7, .v (.int .i64 ((i + 1 : Nat) : Int)))] := by
  have hi : i < 16 := by rw [← hl]; exact (List.getElem?_eq_some_iff.1 hb).1
  have hi2 : (i : Int) < 16 := by omega
  have hil : i < l.length := by omega
  have w1 : IntKind.i64.wrap (8 * (i : Int)) = 8 * i := wrap_i64 (by omega) (by omega)
  have w2 : IntKind.i64.wrap (m - 8 * (i : Int)) = m - 8 * i := wrap_i64 (by omega) (by omega)
  have w3 := wrapN1 (n := i) (by omega)
  have ia : ∀ (h : Heap) (id : Nat), indexAddrE E.P h 53 (.ptr id 0 0 [] 0) (.v (.int .i64 i)) = some (.ptr id 0 0 [i] i) := fun h id => by
    have := ia_arr (P := E.P) (h := h) (t := 53) (id := id) (g := 0) (i := 0) (o := 0) (j := i) (p := []) und_53 sz_5 hi
    simpa using this
  have hll : (ofBytes l).length = 16 := by rw [ofBytes_len, hl]
  have hleaf : leafsL (ofBytes l) = 16 := by rw [leafs_ofBytes, hl]
  rw [exec_code]
  by_cases c1 : m - 8 * (i : Int) ≤ 0
  · have hp := putL_bytes (l := l) (j := i) (b := 0) hil
    have hz : mask1 m i b = 0 := by unfold mask1; rw [if_pos c1]
    have e0 : ((0 : UInt8).toNat : Int) = 0 := rfl
    rw [e0] at hp
    simp -implicitDefEqProofs only [simA, Nat.reduceAdd, Nat.reduceLT, Nat.reduceEqDiff, Nat.reduceLeDiff, Nat.reduceMul, Int.reduceBEq, Int.reduceBNe, Int.reduceLT, Int.reduceLE, Int.reduceAdd, Int.reduceSub, Int.reduceMul, Int.reduceNeg, Nat.reduceSub, Nat.reducePow, Nat.reduceDiv, Nat.reduceMod, zero_53, und_53, sz_5, agg_5, prs_102_8, sz_53, agg_53, keep_102, E_masks, masks, rows_102, Tryz.f102, hi2, w1, w2, w3, c1, ia, storeE, hp]
    exact ⟨_, by rw [hz], rfl⟩
  · by_cases c2 : m - 8 * (i : Int) < 8
    · have hr : (((m - 8 * (i : Int)).toNat : Nat) : Int) = m - 8 * i := by omega
      have hn := navL_bytes hb
      have hac := and_cut (r := (m - 8 * (i : Int)).toNat) (b := b) (by omega) (by omega)
      rw [hr] at hac
      have w4 : IntKind.i64.wrap (8 - (m - 8 * (i : Int))) = 8 - (m - 8 * i) := wrap_i64 (by omega) (by omega)
      have hp := putL_bytes (l := l) (j := i) (b := cut (m - 8 * (i : Int)).toNat b) hil
      have hz : mask1 m i b = cut (m - 8 * (i : Int)).toNat b := by unfold mask1; rw [if_neg c1, if_pos c2]
      have h8 : (0 : Int) ≤ 8 - (m - 8 * (i : Int)) := by omega
      simp -implicitDefEqProofs only [simA, Nat.reduceAdd, Nat.reduceLT, Nat.reduceEqDiff, Nat.reduceLeDiff, Nat.reduceMul, Int.reduceBEq, Int.reduceBNe, Int.reduceLT, Int.reduceLE, Int.reduceAdd, Int.reduceSub, Int.reduceMul, Int.reduceNeg, Nat.reduceSub, Nat.reducePow, Nat.reduceDiv, Nat.reduceMod, zero_53, und_53, sz_5, agg_5, prs_102_8, sz_53, agg_53, keep_102, E_masks, masks, rows_102, Tryz.f102, hi2, w1, w2, w3, w4, c1, c2, ia, hn, bin_shl h8, hac, storeE, hp, pairsOK]
      exact ⟨_, by rw [hz], rfl⟩
    · have hz : mask1 m i b = b := by unfold mask1; rw [if_neg c1, if_neg c2]
      have hs : l.set i b = l := by
        refine List.ext_getElem? fun j => ?_
        by_cases hj : i = j
        · subst hj; rw [List.getElem?_set_self hil, hb]
        · rw [List.getElem?_set_ne hj]
      simp -implicitDefEqProofs only [simA, Nat.reduceAdd, Nat.reduceLT, Nat.reduceEqDiff, Nat.reduceLeDiff, Nat.reduceMul, Int.reduceBEq, Int.reduceBNe, Int.reduceLT, Int.reduceLE, Int.reduceAdd, Int.reduceSub, Int.reduceMul, Int.reduceNeg, Nat.reduceSub, Nat.reducePow, Nat.reduceDiv, Nat.reduceMod, zero_53, und_53, sz_5, agg_5, prs_102_8, sz_53, agg_53, keep_102, E_masks, masks, rows_102, Tryz.f102, hi2, w1, w2, w3, c1, c2]
      exact ⟨_, by rw [hz, hs], rfl⟩

theorem loop102 (n : Nat) (h : Heap) (m : Int) (r2 : Row) (hm : 0 ≤ m) (hm2 : m ≤ 128) : ∀ (rest pre : List UInt8) (j : Nat) (fr : FR), (pre ++ rest).length = 16 → rest.length < j → keepF (masks 102) fr = [(1, .v (.int .i64 m)), (2, .ptr h.length 0 0 [] 0), (4, .ptr (h.length + 1) 0 0 [] 0), (7, .v (.int .i64 (pre.length : Nat)))] →
    ∃ fr', loopN (exec E (call E (n + 499)) (n + 499) 102 30 h.length (loopB Tryz.f102 0)) (masks 102) j ⟨fr, h ++ [.row 16 0 [.agg (ofBytes (pre ++ rest))] ⟨true, 53⟩, r2], [], []⟩ = some (.exit 0, ⟨fr', h ++ [.row 16 0 [.agg (ofBytes (pre ++ maskF m pre.length rest))] ⟨true, 53⟩, r2], [], []⟩) ∧
      AM.get fr' 2 = some (.ptr h.length 0 0 [] 0) ∧ AM.get fr' 4 = some (.ptr (h.length + 1) 0 0 [] 0)
  | [], pre, j, fr, hl, hj, hk => by
    obtain ⟨j, rfl⟩ : ∃ i, j = i + 1 := ⟨j - 1, by simp at hj; omega⟩
    have hi : ¬ ((pre.length : Int) < 16) := by simp at hl; omega
    have he : exec E (call E (n + 499)) (n + 499) 102 30 h.length (loopB Tryz.f102 0) ⟨keepF (masks 102) fr, h ++ [.row 16 0 [.agg (ofBytes (pre ++ []))] ⟨true, 53⟩, r2], [], []⟩ = some (.exit 0, ⟨[(8, .v (.bool false)), (1, .v (.int .i64 m)), (2, .ptr h.length 0 0 [] 0), (4, .ptr (h.length + 1) 0 0 [] 0), (7, .v (.int .i64 (pre.length : Nat)))], h ++ [.row 16 0 [.agg (ofBytes (pre ++ []))] ⟨true, 53⟩, r2], [], []⟩) := by
      rw [hk, exec_code]
      simp -implicitDefEqProofs only [simA, Nat.reduceAdd, Nat.reduceLT, Nat.reduceEqDiff, Nat.reduceLeDiff, Nat.reduceMul, Int.reduceBEq, Int.reduceBNe, Int.reduceLT, Int.reduceLE, Int.reduceAdd, Int.reduceSub, Int.reduceMul, Int.reduceNeg, Nat.reduceSub, Nat.reducePow, Nat.reduceDiv, Nat.reduceMod, zero_53, und_53, sz_5, agg_5, prs_102_8, sz_53, agg_53, keep_102, E_masks, masks, rows_102, Tryz.f102, hi]
    exact ⟨_, loopN_out he, rfl, rfl⟩
  | b :: rest, pre, j, fr, hl, hj, hk => by
    obtain ⟨j, rfl⟩ : ∃ i, j = i + 1 := ⟨j - 1, by simp at hj; omega⟩
    obtain ⟨fr1, he, hk1⟩ := round102 n h m pre.length (pre ++ b :: rest) b r2 hl (by simp) hm hm2
    have hset : (pre ++ b :: rest).set pre.length (mask1 m pre.length b) = (pre ++ [mask1 m pre.length b]) ++ rest := by
      rw [List.set_append_right _ _ (Nat.le_refl _)]; simp
    rw [hset] at he
    have hlen : (pre ++ [mask1 m pre.length b]).length = pre.length + 1 := by simp
    obtain ⟨fr', g1, g2, g3⟩ := loop102 n h m r2 hm hm2 rest (pre ++ [mask1 m pre.length b]) j fr1 (by simp at hl ⊢; omega) (by simp at hj; omega) (by rw [hlen]; exact hk1)
    refine ⟨fr', ?_, g2, g3⟩
    rw [loopN_step (by rw [hk]; exact he), g1, hlen]
    simp [maskF]

def masked (ad : List UInt8) (m : Int) : List UInt8 := maskF m 0 ad
theorem c102 (n : Nat) (h : Heap) (ad : List UInt8) (m : Int) (hl : ad.length = 16) (hm : 0 ≤ m) (hm2 : m ≤ 128) : call E (n + 500) 102 [.agg (ofBytes ad), .v (.int .i64 m)] h = some (.agg (ofBytes (masked ad m)), h, ⟨[], [], true⟩) := by
  have hleaf : leafsL (ofBytes ad) = 16 := by rw [leafs_ofBytes, hl]
  have hleaf2 : leafsL (ofBytes (maskF m 0 ad)) = 16 := by rw [leafs_ofBytes, maskF_len, hl]
  have hleaf3 : leafsL (List.replicate 16 (AV.v (.int .u8 0))) = 16 := by kernel_rfl
  obtain ⟨fr', g1, g2, g3⟩ := loop102 n h m (.row 16 0 [.agg (List.replicate 16 (AV.v (.int .u8 0)))] ⟨true, 53⟩) hm hm2 ad [] (n + 499) [(1, .v (.int .i64 m)), (2, .ptr h.length 0 0 [] 0), (4, .ptr (h.length + 1) 0 0 [] 0), (7, .v (.int .i64 0))] (by simpa using hl) (by omega) rfl
  rw [call_at (E := E) (f := 102) (fn := Tryz.f102) rfl Tryz.func102 rfl (Nat.le_of_ble_eq_true rfl)]
  simp only [List.nil_append, List.length_nil] at g1
  simp -implicitDefEqProofs only [simA, Nat.reduceAdd, Nat.reduceLT, Nat.reduceEqDiff, Nat.reduceLeDiff, Nat.reduceMul, Int.reduceBEq, Int.reduceBNe, Int.reduceLT, Int.reduceLE, Int.reduceAdd, Int.reduceSub, Int.reduceMul, Int.reduceNeg, Nat.reduceSub, Nat.reducePow, Nat.reduceDiv, Nat.reduceMod, zero_53, und_53, sz_5, agg_5, prs_102_8, sz_53, agg_53, keep_102, E_masks, masks, rows_102, Tryz.f102] at g1
  simp -implicitDefEqProofs only [simA, Nat.reduceAdd, Nat.reduceLT, Nat.reduceEqDiff, Nat.reduceLeDiff, Nat.reduceMul, Int.reduceBEq, Int.reduceBNe, Int.reduceLT, Int.reduceLE, Int.reduceAdd, Int.reduceSub, Int.reduceMul, Int.reduceNeg, Nat.reduceSub, Nat.reducePow, Nat.reduceDiv, Nat.reduceMod, zero_53, und_53, sz_5, agg_5, prs_102_8, sz_53, agg_53, keep_102, E_masks, masks, rows_102, Tryz.f102, hleaf, hleaf2, hleaf3, g1, g2, g3, storeE, frzL_bytes]
  rfl

def right (p : Pre) : Bool := decide (0 ≤ p.len) && (decide (p.len ≤ width p.six) && (masked p.ad p.len == p.ad))

theorem width_le (six : Bool) : width six ≤ 128 := by cases six <;> decide

theorem c68 (n : Nat) (h : Heap) (p : Pre) (hp : p.ok) : call E (n + 501) 68 [p.av] h = some (.v (.bool (right p)), h, ⟨[], [], true⟩) := by
  obtain ⟨six, ad, len⟩ := p
  have had : ad.length = 16 := hp.1
  have hleaf : leafsL (ofBytes ad) = 16 := by rw [leafs_ofBytes, had]
  rw [call_at (E := E) (f := 68) (fn := Tryz.f68) rfl Tryz.func68 rfl (Nat.le_of_ble_eq_true rfl)]
  by_cases h1 : 0 ≤ len
  · by_cases h2 : len ≤ width six
    · have hw := width_le six
      have hm : (masked ad len).length = 16 := by rw [masked, maskF_len, had]
      simp -implicitDefEqProofs only [simA, Nat.reduceAdd, Nat.reduceLT, Nat.reduceEqDiff, Nat.reduceLeDiff, Nat.reduceMul, Int.reduceBEq, Int.reduceBNe, Int.reduceLT, Int.reduceLE, Int.reduceAdd, Int.reduceSub, Int.reduceMul, Int.reduceNeg, Nat.reduceSub, Nat.reducePow, Nat.reduceDiv, Nat.reduceMod, prs_68_1, fo_55_2, sz_3, agg_3, fo_55_0, sz_4, agg_4, fo_55_1, sz_53, agg_53, keep_68, E_masks, masks, rows_68, Tryz.f68, Pre.av, hleaf, h1, h2, c101, c102 _ _ ad len had h1 (by omega), eq53 hm had, pairsOK, clsOf, compat, List.getElem?_cons_zero]
      simp [right, h1, h2]
    · simp -implicitDefEqProofs only [simA, Nat.reduceAdd, Nat.reduceLT, Nat.reduceEqDiff, Nat.reduceLeDiff, Nat.reduceMul, Int.reduceBEq, Int.reduceBNe, Int.reduceLT, Int.reduceLE, Int.reduceAdd, Int.reduceSub, Int.reduceMul, Int.reduceNeg, Nat.reduceSub, Nat.reducePow, Nat.reduceDiv, Nat.reduceMod, prs_68_1, fo_55_2, sz_3, agg_3, fo_55_0, sz_4, agg_4, fo_55_1, sz_53, agg_53, keep_68, E_masks, masks, rows_68, Tryz.f68, Pre.av, hleaf, h1, h2, c101, pairsOK, clsOf, compat]
      simp [right, h1, h2]
  · simp -implicitDefEqProofs only [simA, Nat.reduceAdd, Nat.reduceLT, Nat.reduceEqDiff, Nat.reduceLeDiff, Nat.reduceMul, Int.reduceBEq, Int.reduceBNe, Int.reduceLT, Int.reduceLE, Int.reduceAdd, Int.reduceSub, Int.reduceMul, Int.reduceNeg, Nat.reduceSub, Nat.reducePow, Nat.reduceDiv, Nat.reduceMod, prs_68_1, fo_55_2, sz_3, agg_3, fo_55_0, sz_4, agg_4, fo_55_1, sz_53, agg_53, keep_68, E_masks, masks, rows_68, Tryz.f68, Pre.av, hleaf, h1, pairsOK, clsOf, compat]
    simp [right, h1]

/-- A prefix's bytes. -/
def preB (p : Pre) : List UInt8 := UInt8.ofNat (p.len + 64 * kindOf p.six).toNat :: p.ad.take ((p.len + 7) / 8).toNat

theorem right_le {p : Pre} (h : right p = true) : 0 ≤ p.len ∧ p.len ≤ width p.six := by
  simp only [right, Bool.and_eq_true, decide_eq_true_eq] at h
  exact ⟨h.1, h.2.1⟩

theorem c31 (n : Nat) (h : Heap) (p : Pre) (hp : p.ok) (hr : right p = true) : call E (n + 502) 31 [p.av] h = some (.v (.string (strB (preB p))), h, ⟨[], [], true⟩) := by
  obtain ⟨h1, h2⟩ := right_le hr
  have c68' := fun n h => c68 n h p hp
  have c69' := fun n h => c69 n p hp h
  rw [hr] at c68'
  have hpl : AM.leafs p.av = 18 := Pre.leafs hp
  obtain ⟨six, ad, len⟩ := p
  have hw := width_le six
  have had : ad.length = 16 := hp.1
  have hleaf : leafsL (ofBytes ad) = 16 := by rw [leafs_ofBytes, had]
  have hk : kindOf six = 0 ∨ kindOf six = 1 := by cases six <;> simp [kindOf]
  simp only at h1 h2
  have hw6 : len + 64 * kindOf six ≤ 192 := by cases six <;> simp [kindOf, width] at * <;> omega
  have w1 : IntKind.i64.wrap (64 * kindOf six) = 64 * kindOf six := wrap_i64 (by omega) (by omega)
  have w2 : IntKind.i64.wrap (len + 64 * kindOf six) = len + 64 * kindOf six := wrap_i64 (by omega) (by omega)
  have w3 : IntKind.i64.wrap (len + 7) = len + 7 := wrap_i64 (by omega) (by omega)
  have w4 : IntKind.i64.wrap ((len + 7).tdiv 8) = (len + 7) / 8 := by
    rw [Int.tdiv_eq_ediv_of_nonneg (by omega)]
    exact wrap_i64 (by omega) (by omega)
  have w5 : IntKind.u8.wrap (len + 64 * kindOf six) = len + 64 * kindOf six := by rw [wrap_u8]; omega
  have hq0 : 0 ≤ (len + 7) / 8 := by omega
  have hq1 : (len + 7) / 8 ≤ 16 := by omega
  have hsl := fun h id => sl_arr (P := E.P) (h := h) (id := id) (g := 0) (i := 0) (p := [1]) (o := 1) (kd := .i64) und_53 sz_5 hq0 hq1
  have hso := strOf_isl (h := h ++ [.row 18 0 [.agg [.v (.bool six), .agg (ofBytes ad), .v (.int .i64 len)]] ⟨true, 55⟩]) (id := h.length) (g := 0) (i := 0) (o := 1) (k := 18) (len := ((len + 7) / 8).toNat) (n := 16) (p := [1]) (z := .agg [.v (.bool six), .agg (ofBytes ad), .v (.int .i64 len)]) (l := ad) (by rw [end0]; rfl) rfl rfl had (by omega)
  have hadd := fun ox oy => str_add (P := E.P) (t := 9) (ox := ox) (oy := oy) (a := [UInt8.ofNat (len + 64 * kindOf six).toNat]) (b := ad.take ((len + 7) / 8).toNat) (by simp; omega)
  simp only [Pre.av] at c68' c69' hpl ⊢
  rw [call_at (E := E) (f := 31) (fn := Tryz.f31) rfl Tryz.func31 rfl (Nat.le_of_ble_eq_true rfl)]
  simp -implicitDefEqProofs only [simA, Nat.reduceAdd, Nat.reduceLT, Nat.reduceEqDiff, Nat.reduceLeDiff, Nat.reduceMul, Int.reduceBEq, Int.reduceBNe, Int.reduceLT, Int.reduceLE, Int.reduceAdd, Int.reduceSub, Int.reduceMul, Int.reduceNeg, Nat.reduceSub, Nat.reducePow, Nat.reduceDiv, Nat.reduceMod, sz_55, agg_55, prs_31_3, fo_55_2, sz_3, agg_3, cv_3_5, bs_65_1_31, cv_65_9, fo_55_1, und_53, sz_5, agg_5, keep_31, E_masks, masks, rows_31, Tryz.f31, hleaf, c68', c69', w1, w2, w3, w4, w5, bin_quo (y := 8) (by omega), strOf_one, hsl, hso, hadd, pairsOK, clsOf, compat]
  rfl

end Go.Proofs.YtobdjegooonklaaGreat
