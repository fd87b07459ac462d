/- What is written is read as it was: plain law. Conditions: none. -/
import Derived.Test.YtobdjegooonklaaGreatAmRead
import Derived.Test.YtobdjegooonklaaGreatAmPrint
import Derived.Test.YtobdjegooonklaaGreatAmRight
set_option linter.unusedSimpArgs false
set_option linter.unusedVariables false
namespace Go.Proofs.YtobdjegooonklaaGreat
open Go Go.AM

theorem byte_cons (b : UInt8) (t : List UInt8) : (Rd.mk (b :: t) 0).byte = (b, ⟨t, 0⟩) := by
  have h : ¬ (((b :: t).length : Int) < 1) := by simp; omega
  have h2 : ¬ ((1 : Int) < 0) := by omega
  have e : (Rd.mk (b :: t) 0).raw 1 = ([b], ⟨t, 0⟩) := by
    unfold Rd.raw
    rw [if_neg (by simp), if_neg h2, if_neg h]
    rfl
  unfold Rd.byte
  rw [e]
  rfl
theorem raw_app (s t : List UInt8) : (Rd.mk (s ++ t) 0).raw (s.length : Nat) = (s, ⟨t, 0⟩) := by
  have h : ¬ (((s ++ t).length : Int) < (s.length : Nat)) := by simp; omega
  have h2 : ¬ ((s.length : Int) < 0) := by omega
  simp only [Rd.raw, ne_eq, not_true_eq_false, if_false, h, h2, Int.toNat_natCast]
  simp

theorem uintG_num : ∀ (k i m acc : Nat) (t : List UInt8), i + k = 10 → 0 < k → m * 2 ^ (7 * i) < 18446744073709551616 → (0 < i → 0 < m) → Rd.uintG k i acc ⟨num m ++ t, 0⟩ = (acc + m * 2 ^ (7 * i), ⟨t, 0⟩)
  | 0, i, m, acc, t, h, hk, _, _ => by omega
  | k + 1, i, m, acc, t, h, hk, hm, hi => by
    have hi9 : i ≤ 9 := by omega
    by_cases hm1 : m < 128
    · rw [num_small hm1, List.singleton_append]
      have hb : (UInt8.ofNat m).toNat = m := by rw [UInt8.toNat_ofNat']; omega
      simp only [Rd.uintG, byte_cons, hb]
      have h9 : ¬ (i = 9 ∧ 1 < m) := by
        rintro ⟨rfl, h2⟩
        simp at hm; omega
      have h0 : ¬ (0 < i ∧ m = 0 ∧ (0 : Int) = 0) := by
        rintro ⟨h1, h2, _⟩
        have := hi h1; omega
      rw [if_neg (by rintro (h | ⟨h, h', _⟩); exact h9 h; exact h0 ⟨h, h', rfl⟩), if_neg (by simp), if_pos hm1, Nat.mod_eq_of_lt hm1]
    · rw [num_big (by omega)]
      have hb : (UInt8.ofNat (m % 128 + 128)).toNat = m % 128 + 128 := by rw [UInt8.toNat_ofNat']; omega
      rw [List.cons_append]
      simp only [Rd.uintG, byte_cons, hb]
      have hi8 : i ≤ 8 := by
        rcases Nat.lt_or_ge i 9 with h | h
        · omega
        · have : i = 9 := by omega
          subst this
          simp at hm; omega
      rw [if_neg (by rintro (⟨h, _⟩ | ⟨_, h, _⟩) <;> omega), if_neg (by simp), if_neg (by omega)]
      have hpow : 2 ^ (7 * (i + 1)) = 128 * 2 ^ (7 * i) := by
        rw [show 7 * (i + 1) = 7 + 7 * i by omega, Nat.pow_add]
      have hdiv : m / 128 * 2 ^ (7 * (i + 1)) + m % 128 * 2 ^ (7 * i) = m * 2 ^ (7 * i) := by
        rw [hpow, ← Nat.mul_assoc, ← Nat.add_mul]
        congr 1
        omega
      rw [uintG_num k (i + 1) (m / 128) _ t (by omega) (by omega) (by omega) (by omega)]
      have e2 : (m % 128 + 128) % 128 = m % 128 := by omega
      rw [e2, Nat.add_assoc, Nat.add_comm (m % 128 * 2 ^ (7 * i)), hdiv]
theorem uint_num (m : Nat) (t : List UInt8) (hm : m < 18446744073709551616) : (Rd.mk (num m ++ t) 0).uint = (m, ⟨t, 0⟩) := by
  have := uintG_num 10 0 m 0 t (by omega) (by omega) (by simpa using hm) (by omega)
  simpa [Rd.uint] using this

theorem right_zero {p : Pre} (hp : p.ok) (hr : right p = true) : padded (p.ad.take ((p.len + 7) / 8).toNat) = p.ad := by
  obtain ⟨h1, h2⟩ := right_le hr
  have hw := width_le p.six
  have hmask : masked p.ad p.len = p.ad := by
    simp only [right, Bool.and_eq_true, decide_eq_true_eq] at hr
    simpa using hr.2.2
  unfold masked at hmask
  rw [maskF_iff] at hmask
  have hl := hp.1
  refine List.ext_getElem? fun j => ?_
  unfold padded
  have hlen : (p.ad.take ((p.len + 7) / 8).toNat).length = ((p.len + 7) / 8).toNat := by rw [List.length_take]; omega
  by_cases hj : j < ((p.len + 7) / 8).toNat
  · rw [List.getElem?_append_left (by omega), List.getElem?_take_of_lt hj]
  · rw [List.getElem?_append_right (by omega), hlen]
    by_cases hj2 : j < 16
    · obtain ⟨b, hb⟩ : ∃ b, p.ad[j]? = some b := ⟨_, List.getElem?_eq_getElem (by omega)⟩
      have hm := hmask j b hb
      unfold mask1 at hm
      rw [if_pos (by omega)] at hm
      rw [hb, ← hm, List.getElem?_drop, List.getElem?_replicate, if_pos (by omega)]
    · rw [List.getElem?_eq_none (by simp; omega), List.getElem?_eq_none (by omega)]

theorem pre_back {p : Pre} (hp : p.ok) (hr : right p = true) (t : List UInt8) : (Rd.mk (preB p ++ t) 0).pre = (p, 0, ⟨t, 0⟩) := by
  obtain ⟨h1, h2⟩ := right_le hr
  have hw := width_le p.six
  have hz := right_zero hp hr
  have hl := hp.1
  obtain ⟨six, ad, len⟩ := p
  simp only at h1 h2 hw hz hl
  have hc : ((UInt8.ofNat (len + 64 * kindOf six).toNat).toNat : Int) = len + 64 * kindOf six := by
    rw [UInt8.toNat_ofNat']
    cases six <;> simp [kindOf, width] at * <;> omega
  have hsix : decide (64 ≤ len + 64 * kindOf six) = six := by
    cases six
    · simp [kindOf, width] at *; omega
    · simp [kindOf, width] at *; omega
  have hlen : (if 64 ≤ len + 64 * kindOf six then len + 64 * kindOf six - 64 else len + 64 * kindOf six) = len := by
    cases six
    · simp only [kindOf, width, Bool.false_eq_true, if_false] at *
      rw [if_neg (by omega)]; omega
    · simp only [kindOf, width, if_true] at *
      rw [if_pos (by omega)]; omega
  have htl : (ad.take ((len + 7) / 8).toNat).length = ((len + 7) / 8).toNat := by rw [List.length_take]; omega
  have hraw := raw_app (ad.take ((len + 7) / 8).toNat) t
  rw [htl, show (((len + 7) / 8).toNat : Int) = (len + 7) / 8 by omega] at hraw
  unfold preB
  rw [List.cons_append]
  unfold Rd.pre
  rw [byte_cons]
  dsimp only
  rw [hc, hsix, hlen, hraw]
  dsimp only
  rw [if_neg (by simp), if_neg (by omega), if_neg (by simp), hz, if_neg (by rw [hr]; simp)]

theorem one_back {i : Inc} (hi : i.ok) (hm : may i = true) (t : List UInt8) : (Rd.mk (incB i ++ t) 0).one = (i, 0, ⟨t, 0⟩) := by
  obtain ⟨hk, hr, hm0, hm1⟩ := may_facts hi hm
  have hseq := hi.2.2.2
  have hb : ((UInt8.ofNat i.kind.toNat).toNat : Int) = i.kind := by rcases hk with h | h | h <;> rw [h] <;> rfl
  by_cases h3 : i.kind = 3
  · have hbare : i = ⟨3, bare i.r.to⟩ := by
      unfold may at hm
      rw [if_neg (by omega), if_pos h3] at hm
      simp only [Bool.and_eq_true, decide_eq_true_eq] at hm
      obtain ⟨k, r⟩ := i
      simp only at h3 hm ⊢
      rw [h3, ← hm.2]
    have : incB i ++ t = UInt8.ofNat i.kind.toNat :: (preB i.r.to ++ t) := by simp [incB, h3]
    rw [this]
    unfold Rd.one
    rw [byte_cons]
    dsimp only
    rw [hb, pre_back hi.2.1 hr]
    dsimp only
    rw [if_neg (by simp), if_neg (by omega), if_neg (by simp), if_pos h3, h3]
    rw [← hbare]
  · have : incB i ++ t = UInt8.ofNat i.kind.toNat :: (preB i.r.to ++ (num i.r.metric.toNat ++ (num i.r.seq.toNat ++ t))) := by simp [incB, h3]
    rw [this]
    unfold Rd.one
    rw [byte_cons]
    dsimp only
    rw [hb, pre_back hi.2.1 hr]
    dsimp only
    rw [if_neg (by simp), if_neg (by omega), if_neg (by simp), if_neg h3]
    have hn : (Rd.mk (num i.r.metric.toNat ++ (num i.r.seq.toNat ++ t)) 0).numbers = (0, ⟨t, 0⟩, some (i.r.metric.toNat, i.r.seq.toNat)) := by
      unfold Rd.numbers
      rw [uint_num _ _ (by omega)]
      dsimp only
      rw [uint_num _ _ (by omega)]
      dsimp only
      rw [if_neg (by simp), if_neg (by omega), if_neg (by simp), if_neg (by omega)]
    rw [hn]
    dsimp only
    have hw : withNums ⟨i.kind, bare i.r.to⟩ (i.r.metric.toNat, i.r.seq.toNat) = i := by
      obtain ⟨k, to, me, sq⟩ := i
      simp only [withNums, bare] at *
      rw [show ((me.toNat : Nat) : Int) = me by omega, show ((sq.toNat : Nat) : Int) = sq by omega]
    rw [hw]

theorem many_back : ∀ (l : List Inc) (t : List UInt8), (∀ i ∈ l, i.ok) → (∀ i ∈ l, may i = true) → Rd.many l.length ⟨l.flatMap incB ++ t, 0⟩ = (l, 0, ⟨t, 0⟩)
  | [], t, _, _ => by simp [Rd.many]
  | i :: l, t, hok, hm => by
    have h1 := one_back (hok i (List.mem_cons_self ..)) (hm i (List.mem_cons_self ..)) (l.flatMap incB ++ t)
    have h2 := many_back l t (fun j hj => hok j (List.mem_cons_of_mem _ hj)) (fun j hj => hm j (List.mem_cons_of_mem _ hj))
    rw [List.flatMap_cons, List.append_assoc, List.length_cons, Rd.many, h1]
    dsimp only
    rw [h2]
    simp

/-- WHAT IS WRITTEN IS READ AS IT WAS. -/
theorem read_print {l : List Inc} (hok : ∀ i ∈ l, i.ok) (hm : ∀ i ∈ l, may i = true) (hl : l.length ≤ 200) : readS (printB l) = (l, 0) := by
  unfold readS printB
  rw [uint_num _ _ (by omega)]
  dsimp only
  have := many_back l [] hok hm
  rw [List.append_nil] at this
  rw [if_neg (by simp), if_neg (by omega), this]
  simp [Rd.done]

end Go.Proofs.YtobdjegooonklaaGreat
