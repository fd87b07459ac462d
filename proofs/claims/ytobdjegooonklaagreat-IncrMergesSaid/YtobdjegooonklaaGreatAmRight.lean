/- What the reference's look at a prefix does: the same. Conditions: none. -/
import Derived.Test.YtobdjegooonklaaGreatAmPrefix
set_option linter.unusedSimpArgs false
set_option linter.unusedVariables false
namespace Go.Proofs.YtobdjegooonklaaGreat
open Go Go.AM

def bitB (b : UInt8) (k : Nat) : Nat := b.toNat / 2 ^ (7 - k) % 2
def bitOf (ad : List UInt8) (i : Nat) : Nat := bitB (ad.getD (i / 8) 0) (i % 8)

theorem c103 (n : Nat) (h : Heap) (ad : List UInt8) (i : Nat) (hl : ad.length = 16) (hi : i < 128) : call E (n + 500) 103 [.agg (ofBytes ad), .v (.int .i64 (i : Nat))] h = some (.v (.int .i64 (bitOf ad i : Nat)), h, ⟨[], [], true⟩) := by
  have hleaf : leafsL (ofBytes ad) = 16 := by rw [leafs_ofBytes, hl]
  have h16 : i / 8 < 16 := by omega
  obtain ⟨b, hb⟩ : ∃ b, ad[i / 8]? = some b := ⟨_, List.getElem?_eq_getElem (by omega)⟩
  have hn := navL_bytes hb
  have w1 : IntKind.i64.wrap ((i : Int).tdiv 8) = ((i / 8 : Nat) : Int) := by
    rw [Int.tdiv_eq_ediv_of_nonneg (by omega), wrap_i64 (by omega) (by omega)]; omega
  have w2 : (i : Int).tmod 8 = ((i % 8 : Nat) : Int) := by rw [Int.tmod_eq_emod_of_nonneg (by omega)]; omega
  have w3 : IntKind.i64.wrap (7 - ((i % 8 : Nat) : Int)) = ((7 - i % 8 : Nat) : Int) := by rw [wrap_i64 (by omega) (by omega)]; omega
  have hbl := b.toNat_lt
  have w4 : (b.toNat : Int).fdiv (2 ^ (min ((7 - i % 8 : Nat) : Int).toNat IntKind.u8.bits)) = ((b.toNat / 2 ^ (7 - i % 8) : Nat) : Int) := by
    have : min ((7 - i % 8 : Nat) : Int).toNat IntKind.u8.bits = 7 - i % 8 := by simp [IntKind.bits]; omega
    rw [this, Int.fdiv_eq_ediv_of_nonneg _ (Int.le_of_lt (Int.pow_pos (by omega)))]
    norm_cast
  have hd : b.toNat / 2 ^ (7 - i % 8) ≤ b.toNat := Nat.div_le_self _ _
  have w5 : IntKind.i64.wrap ((b.toNat / 2 ^ (7 - i % 8) : Nat) : Int) = ((b.toNat / 2 ^ (7 - i % 8) : Nat) : Int) := wrapN (Nat.le_trans hd (by omega))
  have w6 : ((b.toNat / 2 ^ (7 - i % 8) : Nat) : Int).tmod 2 = ((b.toNat / 2 ^ (7 - i % 8) % 2 : Nat) : Int) := (fun q : Nat => (by rw [Int.tmod_eq_emod_of_nonneg (by omega)]; omega : (q : Int).tmod 2 = ((q % 2 : Nat) : Int))) _
  have ia : ∀ (h : Heap) (id : Nat), indexAddrE E.P h 53 (.ptr id 0 0 [] 0) (.v (.int .i64 ((i / 8 : Nat) : Int))) = some (.ptr id 0 0 [i / 8] (i / 8)) := fun h id => by
    have := ia_arr (P := E.P) (h := h) (t := 53) (id := id) (g := 0) (i := 0) (o := 0) (j := i / 8) (p := []) und_53 sz_5 h16
    simpa using this
  have hres : bitOf ad i = b.toNat / 2 ^ (7 - i % 8) % 2 := by
    unfold bitOf bitB
    rw [List.getD_eq_getElem?_getD, hb]; rfl
  rw [call_at (E := E) (f := 103) (fn := Tryz.f103) rfl Tryz.func103 rfl (Nat.le_of_ble_eq_true rfl)]
  simp -implicitDefEqProofs only [simA, Nat.reduceAdd, Nat.reduceLT, Nat.reduceEqDiff, Nat.reduceLeDiff, Nat.reduceMul, Int.reduceBEq, Int.reduceBNe, Int.reduceLT, Int.reduceLE, Int.reduceAdd, Int.reduceSub, Int.reduceMul, Int.reduceNeg, Nat.reduceSub, Nat.reducePow, Nat.reduceDiv, Nat.reduceMod, und_53, sz_5, agg_5, cv_5_3, keep_103, E_masks, masks, rows_103, Tryz.f103, hleaf, bin_quo (y := 8) (by omega), bin_rem (y := 8) (by omega), bin_rem (y := 2) (by omega), bin_shr (y := ((7 - i % 8 : Nat) : Int)) (by omega), w1, w2, w3, w4, w5, w6, ia, hn]
  rw [hres]

/-- No bit is set from a place on. -/
def clear (ad : List UInt8) (i : Nat) : Bool := (List.range' i (128 - i)).all fun k => bitOf ad k == 0
theorem clear_end (ad : List UInt8) : clear ad 128 = true := rfl
theorem clear_step {ad : List UInt8} {i : Nat} (h : i < 128) : clear ad i = (bitOf ad i == 0 && clear ad (i + 1)) := by
  unfold clear
  rw [show 128 - i = (128 - (i + 1)) + 1 by omega, List.range'_succ, List.all_cons]

theorem loop71 (n : Nat) (h : Heap) (p : Pre) (hp : p.ok) : ∀ (k i j : Nat) (fr : FR), i + k = 128 → k < j → keepF (masks 71) fr = [(1, .ptr h.length 0 0 [] 0), (3, .v (.int .i64 (i : Nat)))] →
    ∃ fr', (loopN (exec E (call E (n + 500)) (n + 500) 71 26 h.length (loopB Tryz.f71 0)) (masks 71) j ⟨fr, h ++ [.row 18 0 [p.av] ⟨true, 55⟩], [], []⟩ = some (.exit 0, ⟨fr', h ++ [.row 18 0 [p.av] ⟨true, 55⟩], [], []⟩) ∧ clear p.ad i = true) ∨
      (loopN (exec E (call E (n + 500)) (n + 500) 71 26 h.length (loopB Tryz.f71 0)) (masks 71) j ⟨fr, h ++ [.row 18 0 [p.av] ⟨true, 55⟩], [], []⟩ = some (.ret, ⟨fr', h ++ [.row 18 0 [p.av] ⟨true, 55⟩], [], []⟩) ∧ AM.get fr' 2 = some (.v (.bool false)) ∧ clear p.ad i = false) := by
  intro k
  have hleaf : leafsL (ofBytes p.ad) = 16 := by rw [leafs_ofBytes]; exact hp.1
  induction k with
  | zero =>
    intro i j fr hik hj hk
    obtain ⟨j, rfl⟩ : ∃ i, j = i + 1 := ⟨j - 1, by omega⟩
    have hi : ¬ ((i : Int) < 128) := by omega
    have he : ∃ fr', exec E (call E (n + 500)) (n + 500) 71 26 h.length (loopB Tryz.f71 0) ⟨keepF (masks 71) fr, h ++ [.row 18 0 [p.av] ⟨true, 55⟩], [], []⟩ = some (.exit 0, ⟨fr', h ++ [.row 18 0 [p.av] ⟨true, 55⟩], [], []⟩) := by
      rw [hk, exec_code]
      simp -implicitDefEqProofs only [simA, Nat.reduceAdd, Nat.reduceLT, Nat.reduceEqDiff, Nat.reduceLeDiff, Nat.reduceMul, Int.reduceBEq, Int.reduceBNe, Int.reduceLT, Int.reduceLE, Int.reduceAdd, Int.reduceSub, Int.reduceMul, Int.reduceNeg, Nat.reduceSub, Nat.reducePow, Nat.reduceDiv, Nat.reduceMod, prs_71_1, fo_55_2, sz_3, agg_3, fo_55_0, sz_4, agg_4, fo_55_1, sz_53, agg_53, keep_71, E_masks, masks, rows_71, Tryz.f71, hi]
      exact ⟨_, rfl⟩
    obtain ⟨fr', he⟩ := he
    refine ⟨fr', .inl ⟨loopN_out he, ?_⟩⟩
    have : i = 128 := by omega
    rw [this, clear_end]
  | succ k ih =>
    intro i j fr hik hj hk
    obtain ⟨j, rfl⟩ : ∃ i, j = i + 1 := ⟨j - 1, by omega⟩
    have hi : ((i : Int) < 128) := by omega
    have hc := fun n h => c103 n h p.ad i hp.1 (by omega)
    have w1 := wrapN1 (n := i) (by omega)
    have nv : nav p.av [1] 1 = some (.agg (ofBytes p.ad)) := by simp [Pre.av, nav, navL, Zfv, bleE]
    by_cases hb : bitOf p.ad i = 0
    · have e0 : (((bitOf p.ad i : Nat) : Int) != 0) = false := by simp [hb]
      have he : ∃ fr', exec E (call E (n + 500)) (n + 500) 71 26 h.length (loopB Tryz.f71 0) ⟨keepF (masks 71) fr, h ++ [.row 18 0 [p.av] ⟨true, 55⟩], [], []⟩ = some (.normal, ⟨fr', h ++ [.row 18 0 [p.av] ⟨true, 55⟩], [], []⟩) ∧ keepF (masks 71) fr' = [(1, .ptr h.length 0 0 [] 0), (3, .v (.int .i64 ((i + 1 : Nat) : Int)))] := by
        rw [hk, exec_code]
        simp -implicitDefEqProofs only [simA, Nat.reduceAdd, Nat.reduceLT, Nat.reduceEqDiff, Nat.reduceLeDiff, Nat.reduceMul, Int.reduceBEq, Int.reduceBNe, Int.reduceLT, Int.reduceLE, Int.reduceAdd, Int.reduceSub, Int.reduceMul, Int.reduceNeg, Nat.reduceSub, Nat.reducePow, Nat.reduceDiv, Nat.reduceMod, prs_71_1, fo_55_2, sz_3, agg_3, fo_55_0, sz_4, agg_4, fo_55_1, sz_53, agg_53, keep_71, E_masks, masks, rows_71, Tryz.f71, hi, nv, hleaf, hc, e0, w1]
        exact ⟨_, rfl, rfl⟩
      obtain ⟨fr1, he, hk1⟩ := he
      obtain ⟨fr', g⟩ := ih (i + 1) j fr1 (by omega) (by omega) hk1
      refine ⟨fr', ?_⟩
      rw [loopN_step he, clear_step (by omega), hb]
      simpa using g
    · have e0 : (((bitOf p.ad i : Nat) : Int) != 0) = true := by simp [hb]
      have he : ∃ fr', exec E (call E (n + 500)) (n + 500) 71 26 h.length (loopB Tryz.f71 0) ⟨keepF (masks 71) fr, h ++ [.row 18 0 [p.av] ⟨true, 55⟩], [], []⟩ = some (.ret, ⟨fr', h ++ [.row 18 0 [p.av] ⟨true, 55⟩], [], []⟩) ∧ AM.get fr' 2 = some (.v (.bool false)) := by
        rw [hk, exec_code]
        simp -implicitDefEqProofs only [simA, Nat.reduceAdd, Nat.reduceLT, Nat.reduceEqDiff, Nat.reduceLeDiff, Nat.reduceMul, Int.reduceBEq, Int.reduceBNe, Int.reduceLT, Int.reduceLE, Int.reduceAdd, Int.reduceSub, Int.reduceMul, Int.reduceNeg, Nat.reduceSub, Nat.reducePow, Nat.reduceDiv, Nat.reduceMod, prs_71_1, fo_55_2, sz_3, agg_3, fo_55_0, sz_4, agg_4, fo_55_1, sz_53, agg_53, keep_71, E_masks, masks, rows_71, Tryz.f71, hi, nv, hleaf, hc, e0, w1]
        exact ⟨_, rfl, rfl⟩
      obtain ⟨fr', he, hg⟩ := he
      refine ⟨fr', .inr ⟨loopN_ret he, hg, ?_⟩⟩
      rw [clear_step (by omega)]
      simp [hb]

def rightB (p : Pre) : Bool := decide (0 ≤ p.len) && (decide (p.len ≤ width p.six) && clear p.ad p.len.toNat)

theorem c71 (n : Nat) (h : Heap) (p : Pre) (hp : p.ok) : call E (n + 501) 71 [p.av] h = some (.v (.bool (rightB p)), h, ⟨[], [], true⟩) := by
  have hpl : AM.leafs p.av = 18 := Pre.leafs hp
  have hpt : isTupA p.av = false := rfl
  have n0 : nav p.av [0] 0 = some (.v (.bool p.six)) := by simp [Pre.av, nav, navL]
  have n2 : nav p.av [2] 17 = some (.v (.int .i64 p.len)) := by simp [Pre.av, nav, navL, Zfv, Zfw, leafs_ofBytes, hp.1, bleE]
  have hw := width_le p.six
  by_cases h1 : p.len < 0
  · rw [call_at (E := E) (f := 71) (fn := Tryz.f71) rfl Tryz.func71 rfl (Nat.le_of_ble_eq_true rfl)]
    simp -implicitDefEqProofs only [simA, Nat.reduceAdd, Nat.reduceLT, Nat.reduceEqDiff, Nat.reduceLeDiff, Nat.reduceMul, Int.reduceBEq, Int.reduceBNe, Int.reduceLT, Int.reduceLE, Int.reduceAdd, Int.reduceSub, Int.reduceMul, Int.reduceNeg, Nat.reduceSub, Nat.reducePow, Nat.reduceDiv, Nat.reduceMod, prs_71_1, fo_55_2, sz_3, agg_3, fo_55_0, sz_4, agg_4, fo_55_1, sz_53, agg_53, keep_71, E_masks, masks, rows_71, Tryz.f71, hpl, hpt, n0, n2, h1, pairsOK, clsOf, compat]
    simp [rightB, h1]; omega
  · by_cases h2 : width p.six < p.len
    · rw [call_at (E := E) (f := 71) (fn := Tryz.f71) rfl Tryz.func71 rfl (Nat.le_of_ble_eq_true rfl)]
      simp -implicitDefEqProofs only [simA, Nat.reduceAdd, Nat.reduceLT, Nat.reduceEqDiff, Nat.reduceLeDiff, Nat.reduceMul, Int.reduceBEq, Int.reduceBNe, Int.reduceLT, Int.reduceLE, Int.reduceAdd, Int.reduceSub, Int.reduceMul, Int.reduceNeg, Nat.reduceSub, Nat.reducePow, Nat.reduceDiv, Nat.reduceMod, prs_71_1, fo_55_2, sz_3, agg_3, fo_55_0, sz_4, agg_4, fo_55_1, sz_53, agg_53, keep_71, E_masks, masks, rows_71, Tryz.f71, hpl, hpt, n0, n2, h1, h2, c81, pairsOK, clsOf, compat]
      simp [rightB, h2]; omega
    · have hlen : ((p.len.toNat : Nat) : Int) = p.len := by omega
      have hb : rightB p = clear p.ad p.len.toNat := by
        unfold rightB
        rw [decide_eq_true (by omega : 0 ≤ p.len), decide_eq_true (by omega : p.len ≤ width p.six)]; rfl
      obtain ⟨fr', ⟨g1, g2⟩ | ⟨g1, g2, g3⟩⟩ := loop71 n h p hp (128 - p.len.toNat) p.len.toNat (n + 500) [(1, .ptr h.length 0 0 [] 0), (3, .v (.int .i64 p.len))] (by omega) (by omega) (by rw [hlen]; rfl)
      · simp -implicitDefEqProofs only [simA, Nat.reduceAdd, Nat.reduceLT, Nat.reduceEqDiff, Nat.reduceLeDiff, Nat.reduceMul, Int.reduceBEq, Int.reduceBNe, Int.reduceLT, Int.reduceLE, Int.reduceAdd, Int.reduceSub, Int.reduceMul, Int.reduceNeg, Nat.reduceSub, Nat.reducePow, Nat.reduceDiv, Nat.reduceMod, prs_71_1, fo_55_2, sz_3, agg_3, fo_55_0, sz_4, agg_4, fo_55_1, sz_53, agg_53, keep_71, E_masks, masks, rows_71, Tryz.f71] at g1
        rw [call_at (E := E) (f := 71) (fn := Tryz.f71) rfl Tryz.func71 rfl (Nat.le_of_ble_eq_true rfl)]
        simp -implicitDefEqProofs only [simA, Nat.reduceAdd, Nat.reduceLT, Nat.reduceEqDiff, Nat.reduceLeDiff, Nat.reduceMul, Int.reduceBEq, Int.reduceBNe, Int.reduceLT, Int.reduceLE, Int.reduceAdd, Int.reduceSub, Int.reduceMul, Int.reduceNeg, Nat.reduceSub, Nat.reducePow, Nat.reduceDiv, Nat.reduceMod, prs_71_1, fo_55_2, sz_3, agg_3, fo_55_0, sz_4, agg_4, fo_55_1, sz_53, agg_53, keep_71, E_masks, masks, rows_71, Tryz.f71, hpl, hpt, n0, n2, h1, h2, c81, pairsOK, clsOf, compat, g1]
        rw [hb, g2]
      · simp -implicitDefEqProofs only [simA, Nat.reduceAdd, Nat.reduceLT, Nat.reduceEqDiff, Nat.reduceLeDiff, Nat.reduceMul, Int.reduceBEq, Int.reduceBNe, Int.reduceLT, Int.reduceLE, Int.reduceAdd, Int.reduceSub, Int.reduceMul, Int.reduceNeg, Nat.reduceSub, Nat.reducePow, Nat.reduceDiv, Nat.reduceMod, prs_71_1, fo_55_2, sz_3, agg_3, fo_55_0, sz_4, agg_4, fo_55_1, sz_53, agg_53, keep_71, E_masks, masks, rows_71, Tryz.f71] at g1
        rw [call_at (E := E) (f := 71) (fn := Tryz.f71) rfl Tryz.func71 rfl (Nat.le_of_ble_eq_true rfl)]
        simp -implicitDefEqProofs only [simA, Nat.reduceAdd, Nat.reduceLT, Nat.reduceEqDiff, Nat.reduceLeDiff, Nat.reduceMul, Int.reduceBEq, Int.reduceBNe, Int.reduceLT, Int.reduceLE, Int.reduceAdd, Int.reduceSub, Int.reduceMul, Int.reduceNeg, Nat.reduceSub, Nat.reducePow, Nat.reduceDiv, Nat.reduceMod, prs_71_1, fo_55_2, sz_3, agg_3, fo_55_0, sz_4, agg_4, fo_55_1, sz_53, agg_53, keep_71, E_masks, masks, rows_71, Tryz.f71, hpl, hpt, n0, n2, h1, h2, c81, pairsOK, clsOf, compat, g1, g2]
        rw [hb, g3]

/-! ### The two words for a right prefix -/
theorem cut_iff : ∀ r : Fin 8, ∀ b : Fin 256, (b.val / 2 ^ (8 - r.val) * 2 ^ (8 - r.val) = b.val) ↔ ∀ t : Fin 8, r.val ≤ t.val → b.val / 2 ^ (7 - t.val) % 2 = 0 := by decide +kernel

theorem mask1_iff (m : Int) (i : Nat) (b : UInt8) : mask1 m i b = b ↔ ∀ t : Nat, t < 8 → m ≤ 8 * (i : Int) + t → bitB b t = 0 := by
  have hbl := b.toNat_lt
  have key : ∀ r : Nat, r < 8 → (cut r b = b ↔ ∀ t : Nat, t < 8 → r ≤ t → bitB b t = 0) := fun r hr => by
    have h := cut_iff ⟨r, hr⟩ ⟨b.toNat, hbl⟩
    simp only at h
    have h3 : b.toNat / 2 ^ (8 - r) * 2 ^ (8 - r) ≤ b.toNat := Nat.div_mul_le_self _ _
    have hc : cut r b = b ↔ b.toNat / 2 ^ (8 - r) * 2 ^ (8 - r) = b.toNat := by
      unfold cut
      rw [← UInt8.toNat_inj, UInt8.toNat_ofNat', Nat.mod_eq_of_lt (by omega)]
    rw [hc, h]
    exact ⟨fun g t ht hrt => g ⟨t, ht⟩ hrt, fun g t hrt => g t.val t.isLt hrt⟩
  unfold mask1
  split
  · rename_i h1
    have h0 : cut 0 b = 0 := by
      unfold cut
      rw [show b.toNat / 2 ^ (8 - 0) = 0 from Nat.div_eq_of_lt (by omega)]; rfl
    have := key 0 (by omega)
    rw [h0] at this
    rw [this]
    exact ⟨fun g t ht _ => g t ht (by omega), fun g t ht _ => g t ht (by omega)⟩
  · split
    · rename_i h1 h2
      rw [key (m - 8 * (i : Int)).toNat (by omega)]
      exact ⟨fun g t ht hm => g t ht (by omega), fun g t ht hm => g t ht (by omega)⟩
    · rename_i h1 h2
      exact ⟨fun _ t ht hm => by omega, fun _ => rfl⟩

theorem maskF_iff (m : Int) : ∀ (l : List UInt8) (i : Nat), maskF m i l = l ↔ ∀ j b, l[j]? = some b → mask1 m (i + j) b = b
  | [], i => by simp [maskF]
  | c :: l, i => by
    simp only [maskF, List.cons.injEq]
    rw [maskF_iff m l (i + 1)]
    constructor
    · rintro ⟨h1, h2⟩ j b hj
      cases j with
      | zero => simp at hj; subst hj; exact h1
      | succ j => rw [List.getElem?_cons_succ] at hj; have := h2 j b hj; rwa [show i + (j + 1) = i + 1 + j by omega]
    · intro h
      exact ⟨h 0 c rfl, fun j b hj => by have := h (j + 1) b (by rw [List.getElem?_cons_succ]; exact hj); rwa [show i + 1 + j = i + (j + 1) by omega]⟩

theorem clear_iff (ad : List UInt8) (n : Nat) : clear ad n = true ↔ ∀ k, n ≤ k → k < 128 → bitOf ad k = 0 := by
  unfold clear
  rw [List.all_eq_true]
  constructor
  · intro h k h1 h2
    simpa using h k (List.mem_range'_1.2 ⟨h1, by omega⟩)
  · intro h k hk
    have := List.mem_range'_1.1 hk
    simpa using h k (by omega) (by omega)

theorem right_same {p : Pre} (hp : p.ok) : rightB p = right p := by
  unfold rightB right
  by_cases h0 : 0 ≤ p.len
  · by_cases h1 : p.len ≤ width p.six
    · rw [decide_eq_true h0, decide_eq_true h1]
      simp only [Bool.true_and]
      have hl := hp.1
      have hiff : clear p.ad p.len.toNat = true ↔ masked p.ad p.len = p.ad := by
        unfold masked
        rw [clear_iff, maskF_iff]
        constructor
        · intro h j b hj
          rw [mask1_iff]
          intro t ht hm
          have hj' := (List.getElem?_eq_some_iff.1 hj).1
          have := h (8 * j + t) (by omega) (by omega)
          unfold bitOf at this
          rw [show (8 * j + t) / 8 = j by omega, show (8 * j + t) % 8 = t by omega, List.getD_eq_getElem?_getD, hj] at this
          exact this
        · intro h k hk1 hk2
          obtain ⟨b, hb⟩ : ∃ b, p.ad[k / 8]? = some b := ⟨_, List.getElem?_eq_getElem (by omega)⟩
          have := (mask1_iff _ _ _).1 (h (k / 8) b hb) (k % 8) (by omega) (by omega)
          unfold bitOf
          rw [List.getD_eq_getElem?_getD, hb]
          exact this
      cases hc : clear p.ad p.len.toNat with
      | true => rw [hiff] at hc; simp [hc]
      | false =>
        have : ¬ masked p.ad p.len = p.ad := fun e => by rw [hiff.2 e] at hc; cases hc
        simp [this]
    · rw [decide_eq_false h1]; simp
  · rw [decide_eq_false h0]; simp

theorem c71' (n : Nat) (h : Heap) (p : Pre) (hp : p.ok) : call E (n + 501) 71 [p.av] h = some (.v (.bool (right p)), h, ⟨[], [], true⟩) := by rw [c71 n h p hp, right_same hp]

end Go.Proofs.YtobdjegooonklaaGreat
