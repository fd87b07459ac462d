/- The changes between two tables: what they do. Conditions: none. -/
import Derived.Test.YtobdjegooonklaaGreatAmChg3
set_option linter.unusedSimpArgs false
set_option linter.unusedVariables false
namespace Go.Proofs.YtobdjegooonklaaGreat
open Go Go.AM

theorem look_more {l l' : List Route} {x : Route} (s : SL l) (s' : SL l') (hm : ∀ q, q ∈ l' ↔ q = x ∨ q ∈ l) {p : Pre} (hp : p.ok) : lookR l' p = if p = x.to then some x else lookR l p := by
  have hx : x ∈ l' := (hm x).2 (.inl rfl)
  apply Option.ext
  intro q
  rw [s'.look hp]
  by_cases h : p = x.to
  · rw [if_pos h]
    constructor
    · rintro ⟨h1, h2⟩
      rw [s'.uniq h1 hx (h2.trans h)]
    · intro hq
      injection hq with hq
      subst hq
      exact ⟨hx, h.symm⟩
  · rw [if_neg h, s.look hp, hm]
    constructor
    · rintro ⟨rfl | h1, h2⟩
      · exact (h h2.symm).elim
      · exact ⟨h1, h2⟩
    · rintro ⟨h1, h2⟩
      exact ⟨.inr h1, h2⟩
theorem look_not {l : List Route} (s : SL l) {p : Pre} (hp : p.ok) (h : ∀ r ∈ l, r.to ≠ p) : lookR l p = none := by
  cases hl : lookR l p with
  | none => rfl
  | some r =>
    obtain ⟨h1, h2⟩ := (s.look hp).1 hl
    exact (h r h1 h2).elim
theorem SL.tail {x : Route} {l : List Route} (s : SL (x :: l)) : SL l := ⟨fun r hr => s.ok r (List.mem_cons_of_mem _ hr), (List.pairwise_cons.1 s.sorted).2⟩
theorem SL.left {a b : List Route} (s : SL (a ++ b)) : SL a := ⟨fun r hr => s.ok r (List.mem_append.2 (.inl hr)), (List.pairwise_append.1 s.sorted).1⟩
theorem cmp_ne {p q : Pre} (hp : p.ok) (h : cmpP p q < 0) : p ≠ q := fun e => by
  have := cmpP_self p hp.1
  rw [← e] at h
  omega

/-- On the way from one table to another one: d of the second is laid, a of the first and b of the second are left. -/
structure CI (d a b T : List Route) : Prop where
  t : TabL T
  look : ∀ p : Pre, p.ok → lookR T p = match lookR a p with
    | some r => some r
    | none => lookR d p
  gap : ∀ r ∈ d, ∀ q ∈ a, cmpP r.to q.to < 0
  sa : SL a
  sb : SL (d ++ b)
  ra : ∀ r ∈ a, rightR r = true
  rb : ∀ r ∈ b, rightR r = true
  few : a.length + d.length + b.length < 300

theorem rightR_to {r : Route} (h : rightR r = true) : right r.to = true := by
  unfold rightR at h
  simp only [Bool.and_eq_true] at h
  exact h.1

theorem CI.room {d a b T : List Route} (I : CI d a b T) : T.length ≤ a.length + d.length := by
  have hn : (T.map (·.to)).Nodup := by
    refine List.pairwise_map.2 (I.t.sorted.imp_of_mem fun {x y} hx hy h => ?_)
    exact cmp_ne (I.t.ok x hx).1 h
  have hd := I.sb.left
  have := len_le (f := fun r : Route => r.to) (dn := T) (es := a ++ d) hn fun x hx => by
    have hp := (I.t.ok x hx).1
    have h1 := (I.t.sl.look hp).2 ⟨hx, rfl⟩
    rw [I.look _ hp] at h1
    cases ha : lookR a x.to with
    | some r =>
      rw [ha] at h1
      injection h1 with h1
      subst h1
      exact List.mem_append.2 (.inl ((I.sa.look hp).1 ha).1)
    | none =>
      rw [ha] at h1
      exact List.mem_append.2 (.inr ((hd.look hp).1 h1).1)
  simpa using this

theorem b_ahead {d b : List Route} {y : Route} (s : SL (d ++ y :: b)) : ∀ r ∈ d, cmpP r.to y.to < 0 := fun r hr => (List.pairwise_append.1 s.sorted).2.2 r hr y (List.mem_cons_self ..)

theorem CI.add {d a b T : List Route} {y : Route} (I : CI d a (y :: b) T) (hy : ∀ q ∈ a, cmpP y.to q.to < 0) : (doT T ⟨1, y⟩).2 = 0 ∧ CI (d ++ [y]) a b (doT T ⟨1, y⟩).1 := by
  have hyo : y.ok := I.sb.ok y (by simp)
  have hio : Inc.ok ⟨1, y⟩ := ⟨by unfold i64; simp, hyo⟩
  have hd := I.sb.left
  have hroom := I.room
  have hfew := I.few
  simp only [List.length_cons] at hfew
  have hna : lookR a y.to = none := look_not I.sa hyo.1 fun r hr e => cmp_ne hyo.1 (hy r hr) e.symm
  have hnd : lookR d y.to = none := look_not hd hyo.1 fun r hr e => cmp_ne (hd.ok r hr).1 (b_ahead I.sb r hr) e
  have hno : lookR T y.to = none := by rw [I.look _ hyo.1, hna]; exact hnd
  have hcan : (doT T ⟨1, y⟩).2 = 0 := doT_can I.t hio (by simp [may, I.rb y (List.mem_cons_self ..)]) (fun _ => ⟨hno, by omega⟩) fun h => (h rfl).elim
  obtain ⟨_, _, _, hlook, _⟩ := doT_did I.t hio hcan
  have hassoc : d ++ y :: b = (d ++ [y]) ++ b := by simp
  have sb : SL ((d ++ [y]) ++ b) := by rw [← hassoc]; exact I.sb
  refine ⟨hcan, doT_tab I.t hio, fun p hp => ?_, fun r hr q hq => ?_, I.sa, sb, I.ra, fun r hr => I.rb r (List.mem_cons_of_mem _ hr), by simp; omega⟩
  · rw [hlook p hp, look_more hd sb.left (x := y) (fun q => by simp [or_comm]) hp]
    by_cases h : p = y.to
    · have h' : p = (⟨1, y⟩ : Inc).r.to := h
      rw [if_pos h', if_pos h, h, hna]
      rfl
    · have h' : ¬ p = (⟨1, y⟩ : Inc).r.to := h
      rw [if_neg h', if_neg h, I.look p hp]
  · rcases List.mem_append.1 hr with hr | hr
    · exact I.gap r hr q hq
    · rw [List.mem_singleton.1 hr]; exact hy q hq

theorem CI.del {d a b T : List Route} {x : Route} (I : CI d (x :: a) b T) : (doT T ⟨3, bare x.to⟩).2 = 0 ∧ CI d a b (doT T ⟨3, bare x.to⟩).1 := by
  have hxo : x.ok := I.sa.ok x (List.mem_cons_self ..)
  have hio : Inc.ok ⟨3, bare x.to⟩ := ⟨by unfold i64; simp, bare_ok hxo.1⟩
  have hd := I.sb.left
  have hfew := I.few
  simp only [List.length_cons] at hfew
  have hcons : ∀ p : Pre, p.ok → lookR (x :: a) p = if p = x.to then some x else lookR a p := fun p hp => look_more I.sa.tail I.sa (fun q => by simp) hp
  have hyes : lookR T x.to = some x := by rw [I.look _ hxo.1, hcons _ hxo.1, if_pos rfl]
  have hr := rightR_to (I.ra x (List.mem_cons_self ..))
  have hm : may ⟨3, bare x.to⟩ = true := by
    have : right (bare x.to).to = true := hr
    simp [may, this]
    rfl
  have hcan : (doT T ⟨3, bare x.to⟩).2 = 0 := doT_can I.t hio hm (fun h => by cases h) fun _ => ⟨x, hyes⟩
  obtain ⟨_, _, _, hlook, _⟩ := doT_did I.t hio hcan
  have hpa : lookR a x.to = none := look_not I.sa.tail hxo.1 fun r hr e => cmp_ne hxo.1 ((List.pairwise_cons.1 I.sa.sorted).1 r hr) e.symm
  have hpd : lookR d x.to = none := look_not hd hxo.1 fun r hr e => cmp_ne (hd.ok r hr).1 (I.gap r hr x (List.mem_cons_self ..)) e
  refine ⟨hcan, doT_tab I.t hio, fun p hp => ?_, fun r hr q hq => I.gap r hr q (List.mem_cons_of_mem _ hq), I.sa.tail, I.sb, fun r hr => I.ra r (List.mem_cons_of_mem _ hr), I.rb, by omega⟩
  rw [hlook p hp]
  by_cases h : p = x.to
  · have h' : p = (⟨3, bare x.to⟩ : Inc).r.to := h
    rw [if_pos h', h, hpa, hpd]
    rfl
  · have h' : ¬ p = (⟨3, bare x.to⟩ : Inc).r.to := h
    rw [if_neg h', I.look p hp, hcons p hp, if_neg h]

theorem CI.turn {d a b T : List Route} {x y : Route} (I : CI d (x :: a) (y :: b) T) (hxy : x.to = y.to) {T' : List Route} (hT : TabL T') (hlook : ∀ p : Pre, p.ok → lookR T' p = if p = y.to then some y else lookR T p) : CI (d ++ [y]) a b T' := by
  have hxo : x.ok := I.sa.ok x (List.mem_cons_self ..)
  have hd := I.sb.left
  have hfew := I.few
  simp only [List.length_cons] at hfew
  have hcons : ∀ p : Pre, p.ok → lookR (x :: a) p = if p = x.to then some x else lookR a p := fun p hp => look_more I.sa.tail I.sa (fun q => by simp) hp
  have hassoc : d ++ y :: b = (d ++ [y]) ++ b := by simp
  have sb : SL ((d ++ [y]) ++ b) := by rw [← hassoc]; exact I.sb
  have hpa : lookR a x.to = none := look_not I.sa.tail hxo.1 fun r hr e => cmp_ne hxo.1 ((List.pairwise_cons.1 I.sa.sorted).1 r hr) e.symm
  refine ⟨hT, fun p hp => ?_, fun r hr q hq => ?_, I.sa.tail, sb, fun r hr => I.ra r (List.mem_cons_of_mem _ hr), fun r hr => I.rb r (List.mem_cons_of_mem _ hr), by simp; omega⟩
  · rw [hlook p hp, look_more hd sb.left (x := y) (fun q => by simp [or_comm]) hp]
    by_cases h : p = y.to
    · rw [if_pos h, if_pos h, h, ← hxy, hpa]
    · rw [if_neg h, if_neg h, I.look p hp, hcons p hp, if_neg (by rw [hxy]; exact h)]
  · rcases List.mem_append.1 hr with hr | hr
    · exact I.gap r hr q (List.mem_cons_of_mem _ hq)
    · rw [List.mem_singleton.1 hr, ← hxy]
      exact (List.pairwise_cons.1 I.sa.sorted).1 q hq

theorem fold_one {T : List Route} {i : Inc} {l : List Inc} {k : Nat} (h : (doT T i).2 = 0) : foldT T (i :: l) k = foldT (doT T i).1 l (k + 1) := by simp only [foldT, if_pos h]

theorem chg_fold : ∀ (n : Nat) (a b d T : List Route) (k : Nat), a.length + b.length ≤ n → CI d a b T → (foldT T (chg a b) k).2.2 = 0 ∧ (foldT T (chg a b) k).2.1 = k + (chg a b).length ∧ (foldT T (chg a b) k).1 = d ++ b
  | n, [], [], d, T, k, hn, I => by
    rw [chg]
    refine ⟨rfl, rfl, ?_⟩
    simp only [foldT, List.append_nil]
    exact I.t.sl.ext I.sb.left fun p hp => I.look p hp
  | 0, [], y :: b, d, T, k, hn, I => by simp at hn
  | 0, x :: a, b, d, T, k, hn, I => by simp at hn
  | n + 1, [], y :: b, d, T, k, hn, I => by
    obtain ⟨h1, h2⟩ := I.add (by simp)
    obtain ⟨r1, r2, r3⟩ := chg_fold n [] b (d ++ [y]) _ (k + 1) (by simp at hn ⊢; omega) h2
    rw [chg, fold_one h1]
    exact ⟨r1, by rw [r2]; simp; omega, by rw [r3]; simp⟩
  | n + 1, x :: a, [], d, T, k, hn, I => by
    obtain ⟨h1, h2⟩ := I.del
    obtain ⟨r1, r2, r3⟩ := chg_fold n a [] d _ (k + 1) (by simp at hn ⊢; omega) h2
    rw [chg, fold_one h1]
    exact ⟨r1, by rw [r2]; simp; omega, r3⟩
  | n + 1, x :: a, y :: b, d, T, k, hn, I => by
    have hxo : x.ok := I.sa.ok x (List.mem_cons_self ..)
    have hyo : y.ok := I.sb.ok y (by simp)
    have hneg := cmpP_neg (p := x.to) (q := y.to) hxo.1.1 hyo.1.1
    simp only [List.length_cons] at hn
    rw [chg]
    by_cases hlt : cmpP x.to y.to < 0
    · rw [if_pos hlt]
      obtain ⟨h1, h2⟩ := I.del
      obtain ⟨r1, r2, r3⟩ := chg_fold n a (y :: b) d _ (k + 1) (by simp; omega) h2
      rw [fold_one h1]
      exact ⟨r1, by rw [r2]; simp; omega, r3⟩
    · rw [if_neg hlt]
      by_cases hgt : 0 < cmpP x.to y.to
      · rw [if_pos hgt]
        obtain ⟨h1, h2⟩ := I.add fun q hq => by
          rcases List.mem_cons.1 hq with rfl | hq
          · omega
          · exact cmpP_trans hyo.1.1 hxo.1.1 (I.sa.ok q (List.mem_cons_of_mem _ hq)).1.1 (by omega) ((List.pairwise_cons.1 I.sa.sorted).1 q hq)
        obtain ⟨r1, r2, r3⟩ := chg_fold n (x :: a) b (d ++ [y]) _ (k + 1) (by simp; omega) h2
        rw [fold_one h1]
        exact ⟨r1, by rw [r2]; simp; omega, by rw [r3]; simp⟩
      · rw [if_neg hgt]
        have hxy : x.to = y.to := cmpP_zero hxo.1.1 hyo.1.1 (by omega)
        have hyes : lookR T y.to = some x := by
          rw [I.look _ hyo.1, look_more I.sa.tail I.sa (x := x) (fun q => by simp) hyo.1, if_pos hxy.symm]
        by_cases he : x = y
        · rw [if_pos he, List.nil_append]
          have h2 : CI (d ++ [y]) a b T := I.turn hxy I.t fun p hp => by
            by_cases h : p = y.to
            · rw [if_pos h, h, hyes, he]
            · rw [if_neg h]
          obtain ⟨r1, r2, r3⟩ := chg_fold n a b (d ++ [y]) T k (by omega) h2
          exact ⟨r1, r2, by rw [r3]; simp⟩
        · rw [if_neg he, List.cons_append, List.nil_append]
          have hio : Inc.ok ⟨2, y⟩ := ⟨by unfold i64; simp, hyo⟩
          have hcan : (doT T ⟨2, y⟩).2 = 0 := doT_can I.t hio (by simp [may, I.rb y (List.mem_cons_self ..)]) (fun h => by cases h) fun _ => ⟨x, hyes⟩
          obtain ⟨_, _, _, hlook, _⟩ := doT_did I.t hio hcan
          have h2 : CI (d ++ [y]) a b (doT T ⟨2, y⟩).1 := I.turn hxy (doT_tab I.t hio) hlook
          obtain ⟨r1, r2, r3⟩ := chg_fold n a b (d ++ [y]) _ (k + 1) (by omega) h2
          rw [fold_one hcan]
          exact ⟨r1, by rw [r2]; simp; omega, by rw [r3]; simp⟩

theorem chg_way {X Y : List Route} (hX : SL X) (hY : SL Y) (rX : ∀ r ∈ X, rightR r = true) (rY : ∀ r ∈ Y, rightR r = true) (hl : X.length + Y.length < 300) : (foldT X (chg X Y) 0).2.2 = 0 ∧ (foldT X (chg X Y) 0).2.1 = (chg X Y).length ∧ (foldT X (chg X Y) 0).1 = Y := by
  have I : CI [] X Y X := ⟨⟨hX.ok, hX.sorted, by omega⟩, fun p hp => by
    cases lookR X p with
    | some r => rfl
    | none => rfl, by simp, hX, by simpa using hY, rX, rY, by simp; omega⟩
  obtain ⟨r1, r2, r3⟩ := chg_fold _ X Y [] X 0 (Nat.le_refl _) I
  exact ⟨r1, by omega, by simpa using r3⟩

theorem chg_all : ∀ (n : Nat) (a b : List Route), a.length + b.length ≤ n → (∀ r ∈ a, r.ok) → (∀ r ∈ b, r.ok) → (∀ i ∈ chg a b, i.ok ∧ (i.r.to ∈ a.map (·.to) ∨ i.r.to ∈ b.map (·.to))) ∧ (chg a b).length ≤ a.length + b.length
  | n, [], [], hn, _, _ => by rw [chg]; simp
  | 0, [], y :: b, hn, _, _ => by simp at hn
  | 0, x :: a, b, hn, _, _ => by simp at hn
  | n + 1, [], y :: b, hn, ha, hb => by
    obtain ⟨h1, h2⟩ := chg_all n [] b (by simp at hn ⊢; omega) ha fun r hr => hb r (List.mem_cons_of_mem _ hr)
    rw [chg]
    refine ⟨fun i hi => ?_, by simp at h2 ⊢; omega⟩
    rcases List.mem_cons.1 hi with rfl | hi
    · exact ⟨⟨by unfold i64; simp, hb y (List.mem_cons_self ..)⟩, .inr (by simp)⟩
    · obtain ⟨g1, g2 | g2⟩ := h1 i hi
      · exact ⟨g1, .inl g2⟩
      · exact ⟨g1, .inr (List.mem_cons_of_mem _ g2)⟩
  | n + 1, x :: a, [], hn, ha, hb => by
    obtain ⟨h1, h2⟩ := chg_all n a [] (by simp at hn ⊢; omega) (fun r hr => ha r (List.mem_cons_of_mem _ hr)) hb
    rw [chg]
    refine ⟨fun i hi => ?_, by simp at h2 ⊢; omega⟩
    rcases List.mem_cons.1 hi with rfl | hi
    · exact ⟨⟨by unfold i64; simp, bare_ok (ha x (List.mem_cons_self ..)).1⟩, .inl (by simp [bare])⟩
    · obtain ⟨g1, g2 | g2⟩ := h1 i hi
      · exact ⟨g1, .inl (List.mem_cons_of_mem _ g2)⟩
      · exact ⟨g1, .inr g2⟩
  | n + 1, x :: a, y :: b, hn, ha, hb => by
    have ha' : ∀ r ∈ a, r.ok := fun r hr => ha r (List.mem_cons_of_mem _ hr)
    have hb' : ∀ r ∈ b, r.ok := fun r hr => hb r (List.mem_cons_of_mem _ hr)
    have hx := ha x (List.mem_cons_self ..)
    have hy := hb y (List.mem_cons_self ..)
    simp only [List.length_cons] at hn
    rw [chg]
    by_cases hlt : cmpP x.to y.to < 0
    · rw [if_pos hlt]
      obtain ⟨h1, h2⟩ := chg_all n a (y :: b) (by simp; omega) ha' hb
      refine ⟨fun i hi => ?_, by simp at h2 ⊢; omega⟩
      rcases List.mem_cons.1 hi with rfl | hi
      · exact ⟨⟨by unfold i64; simp, bare_ok hx.1⟩, .inl (by simp [bare])⟩
      · obtain ⟨g1, g2 | g2⟩ := h1 i hi
        · exact ⟨g1, .inl (List.mem_cons_of_mem _ g2)⟩
        · exact ⟨g1, .inr g2⟩
    · rw [if_neg hlt]
      by_cases hgt : 0 < cmpP x.to y.to
      · rw [if_pos hgt]
        obtain ⟨h1, h2⟩ := chg_all n (x :: a) b (by simp; omega) ha hb'
        refine ⟨fun i hi => ?_, by simp at h2 ⊢; omega⟩
        rcases List.mem_cons.1 hi with rfl | hi
        · exact ⟨⟨by unfold i64; simp, hy⟩, .inr (by simp)⟩
        · obtain ⟨g1, g2 | g2⟩ := h1 i hi
          · exact ⟨g1, .inl g2⟩
          · exact ⟨g1, .inr (List.mem_cons_of_mem _ g2)⟩
      · rw [if_neg hgt]
        obtain ⟨h1, h2⟩ := chg_all n a b (by omega) ha' hb'
        refine ⟨fun i hi => ?_, by split <;> simp at h2 ⊢ <;> omega⟩
        rcases List.mem_append.1 hi with hi | hi
        · split at hi
          · cases hi
          · rw [List.mem_singleton.1 hi]
            exact ⟨⟨by unfold i64; simp, hy⟩, .inr (by simp)⟩
        · obtain ⟨g1, g2 | g2⟩ := h1 i hi
          · exact ⟨g1, .inl (List.mem_cons_of_mem _ g2)⟩
          · exact ⟨g1, .inr (List.mem_cons_of_mem _ g2)⟩

theorem mfold_keys : ∀ (A : List Inc) (L L' : Eff3), Wm L → (∀ i ∈ A, i.ok) → mfold L A = some L' → ∀ p ∈ L'.map (·.1), p ∈ L.map (·.1) ∨ ∃ i ∈ A, i.r.to = p
  | [], L, L', _, _, h, p, hp => by simp only [mfold, Option.some.injEq] at h; subst h; exact .inl hp
  | i :: A, L, L', w, hA, h, p, hp => by
    simp only [mfold] at h
    split at h
    · rename_i L1 h1
      obtain ⟨w1, _⟩ := w.step (hA i (List.mem_cons_self ..)) h1
      rcases mfold_keys A L1 L' w1 (fun j hj => hA j (List.mem_cons_of_mem _ hj)) h p hp with hq | ⟨j, hj, hjp⟩
      · have : ∃ e, L1 = setP L i.r.to e := by
          unfold mstep at h1
          split at h1
          · injection h1 with h1; exact ⟨_, h1.symm⟩
          · split at h1
            · cases h1
            · injection h1 with h1; exact ⟨_, h1.symm⟩
        obtain ⟨e, rfl⟩ := this
        rcases ((setP_keys w.nodup).2 p).1 hq with hq | hq
        · exact .inl hq
        · exact .inr ⟨i, List.mem_cons_self .., hq.symm⟩
      · exact .inr ⟨j, List.mem_cons_of_mem _ hj, hjp⟩
    · cases h

/-- There and back. -/
theorem there_back {X Y : List Route} (hX : SL X) (hY : SL Y) (rX : ∀ r ∈ X, rightR r = true) (rY : ∀ r ∈ Y, rightR r = true) (hlX : X.length ≤ 90) (hlY : Y.length ≤ 90) :
    wrongs (chg X Y) = false ∧ ∃ l, mergeP (chg X Y) (chg Y X) = some l ∧ (foldT X l 0).2.2 = 0 ∧ (foldT X l 0).2.1 = l.length ∧ (foldT X l 0).1 = X := by
  obtain ⟨a1, a2, a3⟩ := chg_way hX hY rX rY (by omega)
  obtain ⟨b1, b2, b3⟩ := chg_way hY hX rY rX (by omega)
  obtain ⟨c1, c2⟩ := chg_all _ X Y (Nat.le_refl _) hX.ok hY.ok
  obtain ⟨d1, d2⟩ := chg_all _ Y X (Nat.le_refl _) hY.ok hX.ok
  have tX : TabL X := ⟨hX.ok, hX.sorted, by omega⟩
  have oA : ∀ i ∈ chg X Y, i.ok := fun i hi => (c1 i hi).1
  have oB : ∀ i ∈ chg Y X, i.ok := fun i hi => (d1 i hi).1
  obtain ⟨_, _, _, _, w1, _⟩ := Fol.fold (chg X Y) X [] 0 oA tX (fol0 X) a1
  refine ⟨w1, ?_⟩
  obtain ⟨l, h1, h2, h3, h4⟩ := stageG tX oA oB (fun L hL => by
    have oAB : ∀ i ∈ chg X Y ++ chg Y X, i.ok := fun i hi => by
      rcases List.mem_append.1 hi with hi | hi
      · exact oA i hi
      · exact oB i hi
    obtain ⟨w, _⟩ := mfold_wm _ _ _ oAB Wm.nil hL
    have hk := mfold_keys _ _ _ Wm.nil oAB hL
    have := len_le (f := fun p : Pre => p) (dn := L.map (·.1)) (es := X.map (·.to) ++ Y.map (·.to)) (by rw [List.map_id']; exact w.nodup) fun p hp => by
      rcases hk p hp with hp | ⟨i, hi, rfl⟩
      · cases hp
      · rcases List.mem_append.1 hi with hi | hi
        · exact List.mem_append.2 (c1 i hi).2
        · exact List.mem_append.2 (d1 i hi).2.symm
    simp only [List.length_map, List.length_append] at this
    omega) a1 (by rw [a3]; exact b1)
  exact ⟨l, h1, h2, h3, by rw [h4, a3, b3]⟩

end Go.Proofs.YtobdjegooonklaaGreat
