/- Tables looked into: what a change does to them. Conditions: none. -/
import Derived.Test.YtobdjegooonklaaGreatAmOut
set_option linter.unusedSimpArgs false
set_option linter.unusedVariables false
set_option maxRecDepth 100000
set_option maxHeartbeats 1000000
namespace Go.Proofs.YtobdjegooonklaaGreat
open Go Go.AM

/-- Routes in order, each of one prefix. -/
structure SL (l : List Route) : Prop where
  ok : ∀ r ∈ l, r.ok
  sorted : Sorted l
def putA (l : List Route) (r : Route) : List Route := insAt l (pos l r.to) r
def dropA (l : List Route) (p : Pre) : List Route := if has l p = true then delAt l (pos l p) else l
theorem SL.put {l : List Route} (s : SL l) {r : Route} (hr : r.ok) (hh : has l r.to = false) : SL (putA l r) := ⟨ins_ok s.ok hr, sorted_ins s.sorted s.ok hr hh⟩
theorem SL.drop {l : List Route} (s : SL l) (p : Pre) : SL (dropA l p) := by
  unfold dropA
  split
  · exact ⟨fun q hq => s.ok q ((del_sub l _).subset hq), s.sorted.sublist (del_sub l _)⟩
  · exact s
theorem putA_len (l : List Route) (r : Route) : (putA l r).length = l.length + 1 := ins_len (pos_le l _)
theorem dropA_len (l : List Route) (p : Pre) : (dropA l p).length ≤ l.length := by
  unfold dropA
  split
  · exact (del_sub l _).length_le
  · exact Nat.le_refl _
theorem has_of_mem {l : List Route} (s : SL l) {r : Route} (hr : r ∈ l) : has l r.to = true := by
  obtain ⟨k, hk⟩ := List.getElem?_of_mem hr
  exact (pos_of_at s.sorted s.ok hk rfl).2
theorem has_mem {l : List Route} (s : SL l) {p : Pre} (hp : p.ok) (hh : has l p = true) : ∃ r ∈ l, r.to = p := by
  obtain ⟨r, h1, h2⟩ := has_some s.ok hp hh
  exact ⟨r, List.mem_of_getElem? h1, h2⟩
theorem has_drop {l : List Route} (s : SL l) {p : Pre} (hp : p.ok) : has (dropA l p) p = false := by
  cases hh : has (dropA l p) p with
  | false => rfl
  | true =>
    obtain ⟨r, h1, h2⟩ := has_mem (s.drop p) hp hh
    unfold dropA at h1
    split at h1
    · rename_i hl
      obtain ⟨r0, g1, g2⟩ := has_some s.ok hp hl
      obtain ⟨hlt, hge⟩ := List.getElem?_eq_some_iff.1 g1
      have hsp : l = l.take (pos l p) ++ r0 :: l.drop (pos l p + 1) := by
        conv => lhs; rw [← List.take_append_drop (pos l p) l]
        rw [List.drop_eq_getElem_cons hlt, hge]
      have hs := s.sorted
      rw [hsp] at hs
      have h0 := cmpP_self p hp.1
      unfold Sorted at hs
      rw [List.pairwise_append, List.pairwise_cons] at hs
      unfold delAt at h1
      rcases List.mem_append.1 h1 with h1 | h1
      · have := hs.2.2 r h1 r0 (List.mem_cons_self ..)
        rw [h2, g2] at this
        omega
      · have := hs.2.1.1 r h1
        rw [h2, g2] at this
        omega
    · rename_i hl
      have := has_of_mem s h1
      rw [h2] at this
      exact (hl this).elim
theorem putA_mem {l : List Route} {r x : Route} : x ∈ putA l r ↔ x = r ∨ x ∈ l := by
  unfold putA insAt
  rw [List.mem_append, List.mem_cons]
  conv => rhs; rw [← List.take_append_drop (pos l r.to) l, List.mem_append]
  constructor
  · rintro (h | h | h)
    · exact .inr (.inl h)
    · exact .inl h
    · exact .inr (.inr h)
  · rintro (h | h | h)
    · exact .inr (.inl h)
    · exact .inl h
    · exact .inr (.inr h)

theorem sorted_ext {α : Type} (key : α → Pre) : ∀ {a b : List α}, a.Pairwise (fun x y => cmpP (key x) (key y) < 0) → b.Pairwise (fun x y => cmpP (key x) (key y) < 0) → (∀ x ∈ a, (key x).ok) → (∀ x ∈ b, (key x).ok) → (∀ x, x ∈ a ↔ x ∈ b) → a = b
  | [], [], _, _, _, _, _ => rfl
  | [], y :: b, _, _, _, _, h => by have := (h y).2 (List.mem_cons_self ..); simp at this
  | x :: a, [], _, _, _, _, h => by have := (h x).1 (List.mem_cons_self ..); simp at this
  | x :: a, y :: b, ha, hb, oa, ob, h => by
    obtain ⟨a1, a2⟩ := List.pairwise_cons.1 ha
    obtain ⟨b1, b2⟩ := List.pairwise_cons.1 hb
    have hx := (oa x (List.mem_cons_self ..)).1
    have hy := (ob y (List.mem_cons_self ..)).1
    by_cases hxy : x = y
    · subst hxy
      have h0 := cmpP_self (key x) hx
      have : a = b := sorted_ext key a2 b2 (fun z hz => oa z (List.mem_cons_of_mem _ hz)) (fun z hz => ob z (List.mem_cons_of_mem _ hz)) fun z => by
        constructor
        · intro hz
          rcases List.mem_cons.1 ((h z).1 (List.mem_cons_of_mem _ hz)) with rfl | hz'
          · have := a1 z hz; omega
          · exact hz'
        · intro hz
          rcases List.mem_cons.1 ((h z).2 (List.mem_cons_of_mem _ hz)) with rfl | hz'
          · have := b1 z hz; omega
          · exact hz'
      rw [this]
    · have hxb : x ∈ b := by
        rcases List.mem_cons.1 ((h x).1 (List.mem_cons_self ..)) with h | h
        · exact (hxy h).elim
        · exact h
      have hya : y ∈ a := by
        rcases List.mem_cons.1 ((h y).2 (List.mem_cons_self ..)) with h | h
        · exact (hxy h.symm).elim
        · exact h
      have c1 := a1 y hya
      have c2 := b1 x hxb
      have := cmpP_neg (p := key x) (q := key y) hx hy
      omega

/-- The route to a prefix. -/
def lookR (l : List Route) (p : Pre) : Option Route := if has l p = true then l[pos l p]? else none

theorem SL.look {l : List Route} (s : SL l) {p : Pre} (hp : p.ok) {r : Route} : lookR l p = some r ↔ r ∈ l ∧ r.to = p := by
  unfold lookR
  constructor
  · intro h
    split at h
    · rename_i hh
      obtain ⟨r', h1, h2⟩ := has_some s.ok hp hh
      rw [h1] at h
      injection h with h
      subst h
      exact ⟨List.mem_of_getElem? h1, h2⟩
    · cases h
  · rintro ⟨h1, h2⟩
    obtain ⟨k, hk⟩ := List.getElem?_of_mem h1
    obtain ⟨g1, g2⟩ := pos_of_at s.sorted s.ok hk h2
    rw [if_pos g2, g1, hk]
theorem SL.has_look {l : List Route} (s : SL l) {p : Pre} (hp : p.ok) : has l p = (lookR l p).isSome := by
  cases hh : has l p with
  | false => simp [lookR, hh]
  | true =>
    obtain ⟨r', h1, h2⟩ := has_some s.ok hp hh
    simp [lookR, hh, h1]
theorem SL.uniq {l : List Route} (s : SL l) {a b : Route} (ha : a ∈ l) (hb : b ∈ l) (h : a.to = b.to) : a = b := by
  have h1 := (s.look (s.ok a ha).1).2 ⟨ha, rfl⟩
  have h2 := (s.look (s.ok a ha).1).2 ⟨hb, h.symm⟩
  rw [h1] at h2
  injection h2
theorem SL.ext {a b : List Route} (sa : SL a) (sb : SL b) (h : ∀ p : Pre, p.ok → lookR a p = lookR b p) : a = b := by
  refine sorted_ext (fun r : Route => r.to) sa.sorted sb.sorted (fun x hx => (sa.ok x hx).1) (fun x hx => (sb.ok x hx).1) fun x => ⟨fun hx => ?_, fun hx => ?_⟩
  · have hp := (sa.ok x hx).1
    have := (sa.look hp).2 ⟨hx, rfl⟩
    rw [h _ hp] at this
    exact ((sb.look hp).1 this).1
  · have hp := (sb.ok x hx).1
    have := (sb.look hp).2 ⟨hx, rfl⟩
    rw [← h _ hp] at this
    exact ((sa.look hp).1 this).1

theorem look_put {l : List Route} (s : SL l) {r : Route} (hr : r.ok) (hh : has l r.to = false) {p : Pre} (hp : p.ok) : lookR (putA l r) p = if p = r.to then some r else lookR l p := by
  apply Option.ext
  intro q
  rw [(s.put hr hh).look hp, putA_mem]
  by_cases hpr : p = r.to
  · rw [if_pos hpr]
    constructor
    · rintro ⟨rfl | h1, h2⟩
      · rfl
      · have := has_of_mem s h1
        rw [h2, hpr, hh] at this
        cases this
    · intro h
      injection h with h
      subst h
      exact ⟨.inl rfl, hpr.symm⟩
  · rw [if_neg hpr, s.look hp]
    constructor
    · rintro ⟨rfl | h1, h2⟩
      · exact (hpr h2.symm).elim
      · exact ⟨h1, h2⟩
    · rintro ⟨h1, h2⟩
      exact ⟨.inr h1, h2⟩
theorem dropA_mem {l : List Route} (s : SL l) {p : Pre} (hp : p.ok) {q : Route} : q ∈ dropA l p ↔ q ∈ l ∧ q.to ≠ p := by
  constructor
  · intro h
    have hn : q.to ≠ p := fun e => by
      have h1 := has_of_mem (s.drop p) h
      rw [e, has_drop s hp] at h1
      cases h1
    refine ⟨?_, hn⟩
    unfold dropA at h
    split at h
    · exact (del_sub l _).subset h
    · exact h
  · rintro ⟨h1, h2⟩
    unfold dropA
    split
    · rename_i hh
      obtain ⟨r0, g1, g2⟩ := has_some s.ok hp hh
      obtain ⟨hlt, hge⟩ := List.getElem?_eq_some_iff.1 g1
      have hsp : l = l.take (pos l p) ++ r0 :: l.drop (pos l p + 1) := by
        conv => lhs; rw [← List.take_append_drop (pos l p) l]
        rw [List.drop_eq_getElem_cons hlt, hge]
      rw [hsp] at h1
      unfold delAt
      rcases List.mem_append.1 h1 with h1 | h1
      · exact List.mem_append.2 (.inl h1)
      · rcases List.mem_cons.1 h1 with rfl | h1
        · exact (h2 g2).elim
        · exact List.mem_append.2 (.inr h1)
    · exact h1
theorem look_drop {l : List Route} (s : SL l) {p0 : Pre} (hp0 : p0.ok) {p : Pre} (hp : p.ok) : lookR (dropA l p0) p = if p = p0 then none else lookR l p := by
  apply Option.ext
  intro q
  rw [(s.drop p0).look hp, dropA_mem s hp0]
  by_cases hpp : p = p0
  · rw [if_pos hpp]
    constructor
    · rintro ⟨⟨_, h2⟩, h3⟩
      exact (h2 (h3.trans hpp)).elim
    · intro h; cases h
  · rw [if_neg hpp, s.look hp]
    constructor
    · rintro ⟨⟨h1, _⟩, h3⟩
      exact ⟨h1, h3⟩
    · rintro ⟨h1, h2⟩
      exact ⟨⟨h1, fun e => hpp (h2.symm.trans e)⟩, h2⟩
theorem SL.set {l : List Route} (s : SL l) {r : Route} (hr : r.ok) (hh : has l r.to = true) : SL (l.set (pos l r.to) r) := by
  obtain ⟨r0, hr0, hto⟩ := has_some s.ok hr.1 hh
  refine ⟨fun q hq => ?_, sorted_set s.sorted hr0 hto.symm⟩
  rcases List.mem_or_eq_of_mem_set hq with hq | rfl
  · exact s.ok q hq
  · exact hr
theorem look_setR {l : List Route} (s : SL l) {r : Route} (hr : r.ok) (hh : has l r.to = true) {p : Pre} (hp : p.ok) : lookR (l.set (pos l r.to) r) p = if p = r.to then some r else lookR l p := by
  have s2 := s.set hr hh
  obtain ⟨r0, hr0, hto⟩ := has_some s.ok hr.1 hh
  obtain ⟨hlt, _⟩ := List.getElem?_eq_some_iff.1 hr0
  have hin : r ∈ l.set (pos l r.to) r := by
    have : (l.set (pos l r.to) r)[pos l r.to]? = some r := by rw [List.getElem?_set_self hlt]
    exact List.mem_of_getElem? this
  apply Option.ext
  intro q
  rw [s2.look hp]
  by_cases hpr : p = r.to
  · rw [if_pos hpr]
    constructor
    · rintro ⟨h1, h2⟩
      rw [s2.uniq h1 hin (h2.trans hpr)]
    · intro h
      injection h with h
      subst h
      exact ⟨hin, hpr.symm⟩
  · rw [if_neg hpr, s.look hp]
    constructor
    · rintro ⟨h1, h2⟩
      rcases List.mem_or_eq_of_mem_set h1 with h1 | rfl
      · exact ⟨h1, h2⟩
      · exact (hpr h2.symm).elim
    · rintro ⟨h1, h2⟩
      refine ⟨?_, h2⟩
      obtain ⟨k, hk⟩ := List.getElem?_of_mem h1
      have hne : pos l r.to ≠ k := fun e => by
        rw [← e, hr0] at hk
        injection hk with hk
        subst hk
        exact hpr (h2.symm.trans hto)
      have : (l.set (pos l r.to) r)[k]? = some q := by rw [List.getElem?_set_ne hne]; exact hk
      exact List.mem_of_getElem? this

/-! ### A change done -/
theorem TabL.sl {l : List Route} (T : TabL l) : SL l := ⟨T.ok, T.sorted⟩
def after (i : Inc) : Option Route := if i.kind = 3 then none else some i.r

theorem doT_did {l : List Route} (T : TabL l) {i : Inc} (hi : i.ok) (h : (doT l i).2 = 0) : may i = true ∧ (i.kind = 1 → lookR l i.r.to = none) ∧ (i.kind ≠ 1 → ∃ r, lookR l i.r.to = some r) ∧ (∀ p : Pre, p.ok → lookR (doT l i).1 p = if p = i.r.to then after i else lookR l p) ∧ (doT l i).1.length ≤ l.length + 1 := by
  have hp := hi.2.1
  have hl := T.sl.has_look hp
  unfold doT at h ⊢
  unfold may after
  by_cases h3 : i.kind = 3
  · simp only [h3, if_true] at h ⊢
    by_cases hb : i.r = ⟨i.r.to, 0, 0⟩ ∧ right i.r.to = true
    · simp only [if_pos hb] at h ⊢
      cases hh : has l i.r.to with
      | true =>
        simp only [hh, if_true] at h ⊢
        have e : delAt l (pos l i.r.to) = dropA l i.r.to := by simp [dropA, hh]
        refine ⟨by simp [hb.2]; exact hb.1, by simp, fun _ => ?_, fun p hp' => ?_, ?_⟩
        · rw [hh] at hl
          exact Option.isSome_iff_exists.1 hl.symm
        · rw [e]
          exact look_drop T.sl hp hp'
        · rw [e]
          have := dropA_len l i.r.to
          omega
      | false => simp [hh] at h
    · simp [if_neg hb] at h
  · simp only [if_neg h3] at h ⊢
    by_cases hb : (i.kind = 1 ∨ i.kind = 2) ∧ rightR i.r = true
    · simp only [if_pos hb, if_pos hb.1] at h ⊢
      cases hh : has l i.r.to with
      | true =>
        simp only [hh, if_true] at h ⊢
        by_cases h1 : i.kind = 1
        · simp [h1] at h
        · simp only [if_neg h1] at h ⊢
          refine ⟨hb.2, fun h => (h1 h).elim, fun _ => ?_, fun p hp' => look_setR T.sl hi.2 hh hp', by simp⟩
          rw [hh] at hl
          exact Option.isSome_iff_exists.1 hl.symm
      | false =>
        simp only [hh, Bool.false_eq_true, if_false] at h ⊢
        by_cases h2 : i.kind = 2
        · simp [h2] at h
        · simp only [if_neg h2] at h ⊢
          by_cases hf : 300 ≤ l.length
          · simp [hf] at h
          · simp only [if_neg hf] at h ⊢
            refine ⟨hb.2, fun _ => ?_, fun h1 => ?_, fun p hp' => look_put T.sl hi.2 hh hp', ?_⟩
            · rw [hh] at hl
              cases hk : lookR l i.r.to with
              | none => rfl
              | some r => rw [hk] at hl; cases hl
            · rcases hb.1 with h | h
              · exact (h1 h).elim
              · exact (h2 h).elim
            · have := putA_len l i.r
              unfold putA at this
              omega
    · simp [if_neg hb] at h

theorem doT_can {l : List Route} (T : TabL l) {i : Inc} (hi : i.ok) (hm : may i = true) (h1 : i.kind = 1 → lookR l i.r.to = none ∧ l.length < 300) (h2 : i.kind ≠ 1 → ∃ r, lookR l i.r.to = some r) : (doT l i).2 = 0 := by
  have hp := hi.2.1
  have hl := T.sl.has_look hp
  unfold may at hm
  unfold doT
  by_cases h3 : i.kind = 3
  · have h12 : ¬ (i.kind = 1 ∨ i.kind = 2) := by omega
    obtain ⟨r, hr⟩ := h2 (by omega)
    rw [hr] at hl
    simp only [if_neg h12, if_pos h3, Bool.and_eq_true, decide_eq_true_eq] at hm
    rw [if_pos h3, if_pos ⟨hm.2, hm.1⟩, if_pos (by rw [hl]; rfl)]
  · by_cases h12 : i.kind = 1 ∨ i.kind = 2
    · simp only [if_pos h12] at hm
      rw [if_neg h3, if_pos ⟨h12, hm⟩]
      by_cases hk : i.kind = 1
      · obtain ⟨g1, g2⟩ := h1 hk
        rw [g1] at hl
        rw [if_neg (by rw [hl]; simp), if_neg (by omega), if_neg (by omega)]
      · obtain ⟨r, hr⟩ := h2 hk
        rw [hr] at hl
        rw [if_pos (by rw [hl]; rfl), if_neg hk]
    · simp only [if_neg h12, if_neg h3] at hm
      cases hm

end Go.Proofs.YtobdjegooonklaaGreat
