/- What is read is written as it was: plain law. Conditions: none. -/
import Derived.Test.YtobdjegooonklaaGreatAmBack
set_option linter.unusedSimpArgs false
set_option linter.unusedVariables false
namespace Go.Proofs.YtobdjegooonklaaGreat
open Go Go.AM

theorem byte_got {r : Rd} (hr : r.e = 0) (h : r.byte.2.e = 0) : r.s = r.byte.1 :: r.byte.2.s := by
  obtain ⟨s, e⟩ := r
  cases s with
  | nil =>
    simp only at hr; subst hr
    exact absurd h (by decide)
  | cons b s =>
    simp only at hr; subst hr
    rw [byte_cons]

theorem raw_got {r : Rd} {k : Int} (hr : r.e = 0) (h : (r.raw k).2.e = 0) : r.s = (r.raw k).1 ++ (r.raw k).2.s ∧ ((r.raw k).1.length : Int) = k := by
  unfold Rd.raw at *
  rw [if_neg (by simp [hr])] at *
  by_cases h1 : k < 0
  · rw [if_pos h1] at h; simp [Rd.fail, hr] at h
  · rw [if_neg h1] at *
    by_cases h2 : (r.s.length : Int) < k
    · rw [if_pos h2] at h; simp [Rd.fail, hr] at h
    · rw [if_neg h2] at *
      refine ⟨(List.take_append_drop _ _).symm, ?_⟩
      rw [List.length_take]; omega

theorem uintG_got : ∀ (k i acc : Nat) (r : Rd), i + k = 10 → 0 < k → r.e = 0 → (r.uintG k i acc).2.e = 0 → ∃ m, (r.uintG k i acc).1 = acc + m * 2 ^ (7 * i) ∧ r.s = num m ++ (r.uintG k i acc).2.s ∧ (0 < i → 0 < m)
  | 0, _, _, _, _, h, _, _ => by omega
  | k + 1, i, acc, r, hik, _, hr, he => by
    simp only [Rd.uintG] at he ⊢
    have hcl := r.byte.1.toNat_lt
    have hfe : ∀ q : Rd, q.e = 0 → (q.fail 4).e ≠ 0 := fun q hq => by simp [Rd.fail, hq]
    by_cases hb : r.byte.2.e = 0
    · have hs := byte_got hr hb
      split at he
      · exact (hfe _ hb he).elim
      · rename_i h1
        rw [if_neg h1, if_neg (by simp [hb])]
        rw [if_neg (by simp [hb])] at he
        have hi0 : 0 < i → r.byte.1.toNat ≠ 0 := fun h h0 => h1 (.inr ⟨h, h0, hb⟩)
        by_cases h3 : r.byte.1.toNat < 128
        · rw [if_pos h3]
          refine ⟨r.byte.1.toNat, by rw [Nat.mod_eq_of_lt h3], ?_, fun h => Nat.pos_of_ne_zero (hi0 h)⟩
          rw [num_small h3, UInt8.ofNat_toNat]
          exact hs
        · rw [if_neg h3] at he ⊢
          have hi9 : i ≠ 9 := fun h => h1 (.inl ⟨h, by omega⟩)
          obtain ⟨m, g1, g2, g3⟩ := uintG_got k (i + 1) _ r.byte.2 (by omega) (by omega) hb he
          have hm := g3 (by omega)
          refine ⟨m * 128 + r.byte.1.toNat % 128, ?_, ?_, fun _ => by omega⟩
          · rw [g1, Nat.add_assoc]
            congr 1
            rw [show 2 ^ (7 * (i + 1)) = 128 * 2 ^ (7 * i) by rw [show 7 * (i + 1) = 7 + 7 * i by omega, Nat.pow_add], Nat.add_mul, Nat.mul_assoc, Nat.add_comm]
          · rw [num_big (by omega), hs, g2]
            have e1 : (m * 128 + r.byte.1.toNat % 128) % 128 + 128 = r.byte.1.toNat := by omega
            have e2 : (m * 128 + r.byte.1.toNat % 128) / 128 = m := by omega
            rw [e1, e2, UInt8.ofNat_toNat]; rfl
    · split at he
      · rename_i h1
        have : (r.byte.2.fail 4).e = r.byte.2.e := by simp [Rd.fail, hb]
        exact (hb (this ▸ he)).elim
      · exact (hb he).elim

theorem uint_got {r : Rd} (hr : r.e = 0) (he : r.uint.2.e = 0) : r.s = num r.uint.1 ++ r.uint.2.s := by
  obtain ⟨m, g1, g2, _⟩ := uintG_got 10 0 0 r rfl (by omega) hr he
  unfold Rd.uint
  rw [g1]
  simpa using g2

theorem pre_got {r : Rd} (hr : r.e = 0) (he : r.pre.2.1 = 0) : r.pre.2.2.e = 0 ∧ right r.pre.1 = true ∧ r.s = preB r.pre.1 ++ r.pre.2.2.s := by
  unfold Rd.pre at *
  dsimp only at *
  by_cases h1 : r.byte.2.e = 0
  · rw [if_neg (by simp [h1])] at he ⊢
    have hs := byte_got hr h1
    have hcl := r.byte.1.toNat_lt
    generalize hlen : (if 64 ≤ (r.byte.1.toNat : Int) then (r.byte.1.toNat : Int) - 64 else (r.byte.1.toNat : Int)) = len at *
    generalize hsix : decide (64 ≤ (r.byte.1.toNat : Int)) = six at *
    by_cases h2 : width six < len
    · rw [if_pos h2] at he; exact absurd he (by simp)
    · rw [if_neg h2] at he ⊢
      by_cases h3 : (r.byte.2.raw ((len + 7) / 8)).2.e = 0
      · rw [if_neg (by simp [h3])] at he ⊢
        obtain ⟨g1, g2⟩ := raw_got h1 h3
        cases h4 : right ⟨six, padded (r.byte.2.raw ((len + 7) / 8)).1, len⟩ with
        | false => rw [if_pos h4] at he; exact absurd he (by simp)
        | true =>
          rw [if_neg (by simp [h4])]
          refine ⟨h3, h4, ?_⟩
          have hb : UInt8.ofNat (len + 64 * kindOf six).toNat = r.byte.1 := by
            have : (len + 64 * kindOf six).toNat = r.byte.1.toNat := by
              rw [← hlen, ← hsix]
              by_cases h64 : 64 ≤ (r.byte.1.toNat : Int)
              · rw [if_pos h64, decide_eq_true h64]; simp only [kindOf, if_true]; omega
              · rw [if_neg h64, decide_eq_false h64]; simp only [kindOf, Bool.false_eq_true, if_false]; omega
            rw [this, UInt8.ofNat_toNat]
          have ht : (padded (r.byte.2.raw ((len + 7) / 8)).1).take ((len + 7) / 8).toNat = (r.byte.2.raw ((len + 7) / 8)).1 := by
            unfold padded
            rw [List.take_append_of_le_length (by omega), List.take_of_length_le (by omega)]
          rw [hs, g1]
          simp only [preB, hb, ht, List.cons_append]
      · rw [if_pos h3] at he; exact (h3 he).elim
  · rw [if_pos h1] at he; exact (h1 he).elim

theorem numbers_got {r : Rd} (hr : r.e = 0) (he : r.numbers.1 = 0) : ∃ m q, r.numbers.2.2 = some (m, q) ∧ m < 65535 ∧ r.numbers.2.1.e = 0 ∧ r.s = num m ++ (num q ++ r.numbers.2.1.s) := by
  unfold Rd.numbers at *
  dsimp only at *
  by_cases h1 : r.uint.2.e = 0
  · rw [if_neg (by simp [h1])] at he ⊢
    have g1 := uint_got hr h1
    by_cases h2 : 65535 ≤ r.uint.1
    · rw [if_pos h2] at he; exact absurd he (by simp)
    · rw [if_neg h2] at he ⊢
      by_cases h3 : r.uint.2.uint.2.e = 0
      · rw [if_neg (by simp [h3])] at he ⊢
        have g2 := uint_got h1 h3
        by_cases h4 : 4294967296 ≤ r.uint.2.uint.1
        · rw [if_pos h4] at he; exact absurd he (by simp)
        · rw [if_neg h4] at he ⊢
          exact ⟨_, _, rfl, by omega, h3, by rw [← g2]; exact g1⟩
      · rw [if_pos h3] at he; exact (h3 he).elim
  · rw [if_pos h1] at he; exact (h1 he).elim

theorem one_got {r : Rd} (hr : r.e = 0) (he : r.one.2.1 = 0) : r.one.2.2.e = 0 ∧ may r.one.1 = true ∧ r.s = incB r.one.1 ++ r.one.2.2.s := by
  unfold Rd.one at *
  dsimp only at *
  by_cases h1 : r.byte.2.e = 0
  · rw [if_neg (by simp [h1])] at he ⊢
    have hs := byte_got hr h1
    have hb : UInt8.ofNat ((r.byte.1.toNat : Int)).toNat = r.byte.1 := by rw [Int.toNat_natCast, UInt8.ofNat_toNat]
    by_cases h2 : (r.byte.1.toNat : Int) < 1 ∨ 3 < (r.byte.1.toNat : Int)
    · rw [if_pos h2] at he; exact absurd he (by simp)
    · rw [if_neg h2] at he ⊢
      by_cases h3 : r.byte.2.pre.2.1 = 0
      · rw [if_neg (by simp [h3])] at he ⊢
        obtain ⟨g1, g2, g3⟩ := pre_got h1 h3
        by_cases h4 : (r.byte.1.toNat : Int) = 3
        · rw [if_pos h4] at he ⊢
          refine ⟨g1, ?_, ?_⟩
          · unfold may
            simp only
            rw [if_neg (by omega), if_pos h4]
            simp [bare, g2]
          · rw [hs, g3]
            have : incB ⟨(r.byte.1.toNat : Int), bare r.byte.2.pre.1⟩ = r.byte.1 :: preB r.byte.2.pre.1 := by
              unfold incB
              simp only
              rw [hb, if_pos h4, List.append_nil]; rfl
            rw [this]; rfl
        · rw [if_neg h4] at he ⊢
          have he' : r.byte.2.pre.2.2.numbers.1 = 0 := by
            revert he
            cases r.byte.2.pre.2.2.numbers.2.2 <;> exact id
          obtain ⟨m, q, k1, k2, k3, k4⟩ := numbers_got g1 he'
          rw [k1]
          dsimp only
          refine ⟨k3, ?_, ?_⟩
          · unfold may withNums rightR
            simp only
            rw [if_pos (by omega)]
            simp only [bare, g2, Bool.true_and, Bool.and_eq_true, decide_eq_true_eq]
            exact ⟨by omega, by omega⟩
          · rw [hs, g3, k4]
            have : incB (withNums ⟨(r.byte.1.toNat : Int), bare r.byte.2.pre.1⟩ (m, q)) = r.byte.1 :: preB r.byte.2.pre.1 ++ (num m ++ num q) := by
              unfold incB withNums bare
              simp only
              rw [hb, if_neg h4, Int.toNat_natCast, Int.toNat_natCast]
            rw [this]
            simp
      · rw [if_pos h3] at he; exact (h3 he).elim
  · rw [if_pos h1] at he; exact (h1 he).elim

theorem many_got : ∀ (k : Nat) {r : Rd}, r.e = 0 → (Rd.many k r).2.1 = 0 → (Rd.many k r).2.2.e = 0 ∧ (∀ i ∈ (Rd.many k r).1, may i = true) ∧ (Rd.many k r).1.length = k ∧ r.s = (Rd.many k r).1.flatMap incB ++ (Rd.many k r).2.2.s
  | 0, r, hr, _ => by simp [Rd.many, hr]
  | k + 1, r, hr, he => by
    rw [Rd.many] at he ⊢
    by_cases h1 : r.one.2.1 = 0
    · rw [if_neg (by simp [h1])] at he ⊢
      obtain ⟨g1, g2, g3⟩ := one_got hr h1
      by_cases h2 : (Rd.many k r.one.2.2).2.1 = 0
      · rw [if_neg (by simp [h2])] at he ⊢
        obtain ⟨k1, k2, k3, k4⟩ := many_got k g1 h2
        refine ⟨k1, ?_, by simp [k3], ?_⟩
        · intro i hi
          rcases List.mem_cons.1 hi with rfl | hi
          · exact g2
          · exact k2 i hi
        · dsimp only
          rw [List.flatMap_cons, List.append_assoc, ← k4]; exact g3
      · rw [if_pos h2] at he; exact (h2 he).elim
    · rw [if_pos h1] at he; exact (h1 he).elim

/-- WHAT IS READ IS WRITTEN AS IT WAS. -/
theorem print_read {s : List UInt8} (he : (readS s).2 = 0) : printS (readS s).1 = (s, 0) := by
  unfold readS at *
  dsimp only at *
  by_cases h1 : (Rd.mk s 0).uint.2.e = 0
  · rw [if_neg (by simp [h1])] at he ⊢
    have g1 := uint_got (r := Rd.mk s 0) rfl h1
    by_cases h2 : 200 < (Rd.mk s 0).uint.1
    · rw [if_pos h2] at he; exact absurd he (by simp)
    · rw [if_neg h2] at he ⊢
      by_cases h3 : ((Rd.mk s 0).uint.2.many (Rd.mk s 0).uint.1).2.1 = 0
      · rw [if_neg (by simp [h3])] at he ⊢
        obtain ⟨k1, k2, k3, k4⟩ := many_got _ h1 h3
        by_cases h4 : ((Rd.mk s 0).uint.2.many (Rd.mk s 0).uint.1).2.2.done = 0
        · rw [if_neg (by simp [h4])] at he ⊢
          have hnil : ((Rd.mk s 0).uint.2.many (Rd.mk s 0).uint.1).2.2.s = [] := by
            unfold Rd.done at h4
            rw [if_neg (by simp [k1])] at h4
            split at h4
            · exact absurd h4 (by decide)
            · rename_i h5; simpa using h5
          dsimp only
          generalize hl : ((Rd.mk s 0).uint.2.many (Rd.mk s 0).uint.1).1 = l at *
          have hw : wrongs l = false := by
            unfold wrongs
            rw [List.any_eq_false]
            intro i hi
            rw [k2 i hi]; simp
          unfold printS
          rw [hw, if_neg (by simp), if_neg (by omega)]
          unfold printB
          rw [hnil, List.append_nil] at k4
          rw [k3, ← k4, ← g1]
        · rw [if_pos h4] at he; exact (h4 he).elim
      · rw [if_pos h3] at he; exact (h3 he).elim
  · rw [if_pos h1] at he; exact (h1 he).elim

theorem readS_len (s : List UInt8) : (readS s).1.length ≤ 200 := by
  unfold readS
  dsimp only
  split
  · simp
  · split
    · simp
    · split
      · simp
      · split
        · simp
        · have := many_len (Rd.mk s 0).uint.1 (Rd.mk s 0).uint.2
          simp only
          omega
theorem readS_ok (s : List UInt8) : ∀ i ∈ (readS s).1, i.ok := by
  intro i hi
  unfold readS at hi
  dsimp only at hi
  split at hi
  · simp at hi
  · split at hi
    · simp at hi
    · split at hi
      · simp at hi
      · split at hi
        · simp at hi
        · exact many_ok _ _ i hi

end Go.Proofs.YtobdjegooonklaaGreat
