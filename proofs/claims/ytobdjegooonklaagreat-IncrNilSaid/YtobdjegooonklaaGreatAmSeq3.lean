/- slices.AppendSeq(nil, ..), third part: an iterator that gives nothing; what the function leaves. Conditions: none. -/
import Derived.Test.YtobdjegooonklaaGreatAmSeq2
import Derived.Test.YtobdjegooonklaaGreatAmOvs
set_option linter.unusedVariables false
set_option linter.unusedSimpArgs false
namespace Go.AM
open Go

variable {F F' : Fz} {m m' : Mp} {fr : FR} {a : Act} {h : Heap} {w : World} {P : Program}

theorem lookAt_old {h h0 : Heap} (hold : ∀ id, id < h0.length → h[id]? = h0[id]?) {id gen i o : Nat} {p : List Nat} (hid : id < h0.length) : lookAt h (.ptr id gen i p o) = lookAt h0 (.ptr id gen i p o) := by
  simp only [lookAt]
  rw [hold id hid]

/-- An iterator that the abstract machine can run: it gives nothing. -/
theorem iter_none {E : Env} (H : E.OK) {g : FuncId} (eg : ∀ args w, (callFunc g args).run E.P w = .ok (.enter g args) w) {id gen i o : Nat} {p : List Nat} {h0 : Heap} {k : Nat} (hid : id < h0.length) {s : AV} (hs : lookAt h0 (.ptr id gen i p o) = some s)
    (hrun : ∀ (h : Heap) (l : Nat), lookAt h (.ptr id gen i p o) = some s → ∃ n r, call E n g [.fn (.yield l) [] [], .ptr id gen i p o] h = some (r, h, ⟨[], [], true⟩)) :
    IterOK E.P g [.ptr id gen i p o] h0 k (fun xs => xs = []) := by
  intro c _ hh _ _ F m W vs hat hv hl0
  obtain ⟨h, sh, r⟩ := hat.mem
  subst hh
  obtain ⟨n, y, hc⟩ := hrun h c.l (by rw [lookAt_old sh.old hid]; exact hs)
  have hv2 : VL F m [.fn (.yield c.l) [] [], .ptr id gen i p o] (.func (.yield c.l) #[] #[] :: vs) := by
    simp only [VL, VRel] at hv ⊢
    exact ⟨_, vs, ⟨[], [], rfl, rfl, rfl⟩, hv, rfl⟩
  have key := (call_ok H n).1 _ _ _ _ _ _ hc F m W _ r hv2 (fun v W' => ∃ xs F' m', xs = [] ∧ At c xs F' m' W') (fun v W' F' m' he _ hr hsm =>
    ⟨[], F', m', rfl, ⟨⟨h, sh, hr⟩, hat.ext.trans he, he.fz _ _ hat.loop, he.fz _ _ hat.defer, hat.same.trans hsm⟩⟩)
  rw [show ((Value.func (.yield c.l) #[] #[] :: vs).toArray) = #[Value.func (.yield c.l) #[] #[]] ++ vs.toArray by simp, eg] at key
  simp only [UponC] at key
  refine (callsIn_wide (n := 0)).2 (key.mono ?_)
  rintro e w' ⟨v, rfl, hx⟩
  exact ⟨v, rfl, hx⟩

/-- All that was there stands; what is new is told no more. -/
theorem Rel.back {h h' : Heap} {w' : World} (r : Rel F m h w) (r' : Rel F' m' h' w') (he : Ext F m F' m') (hold : ∀ id, id < h.length → h'[id]? = h[id]?) :
    Rel (frF F' m' h' h.length w') (cut m' h.length) h w' ∧ Ext F m (frF F' m' h' h.length w') (cut m' h.length) := by
  have mv := move_cut r' h.length
  refine ⟨r'.freeze rfl (fun id hi => (hold id hi).symm) (fun id x hi hx => r.rowLt (by rw [← hold id hi]; exact hx)), ⟨fun b o hb => frF_fz r' h.length b o (he.fz b o hb), fun id gen x hx => ?_, fun id x hx => ?_⟩⟩
  · exact mv.row id gen x (r.fresh id gen (by rw [hx]; simp)) (he.row id gen x hx)
  · exact mv.map id x (r.freshM id (by rw [hx]; simp)) (he.map id x hx)

/-- The mapping under which a row's number is another one. -/
def pick (m : Mp) (n id gen : Nat) : Mp := ⟨fun i g => if i < n then m.row i g else if i = n ∧ g = 0 then m.row id gen else none, fun i => if i < n then m.map i else none⟩

/-- All that was there stands, and one row more is told. -/
theorem Rel.pick {h h' : Heap} {w' : World} (r : Rel F m h w) (r' : Rel F' m' h' w') (he : Ext F m F' m') (hold : ∀ id, id < h.length → h'[id]? = h[id]?) {id k gen : Nat} {els : List AV} {ex ex' : Tag}
    (hid : h.length < id) (hr : h'[id]? = some (.row k gen els ex)) (hty : ex'.ty = ex.ty) (hfl : ex'.full = false) (hf : idfreeL els = true) :
    Rel F' (AM.pick m' h.length id gen) (h ++ [.row k 0 els ex']) w' ∧ Ext F m F' (AM.pick m' h.length id gen) := by
  have mv : Move h.length F' m' F' (AM.pick m' h.length id gen) := ⟨fun _ _ _ _ hb => hb, fun i g x hi hx => by simp [AM.pick, hi, hx], fun i x hi hx => by simp [AM.pick, hi, hx]⟩
  have dn : ∀ {i : Nat} {x : Row}, (h ++ [Row.row k 0 els ex'])[i]? = some x → (i < h.length ∧ h[i]? = some x) ∨ (i = h.length ∧ x = .row k 0 els ex') := fun {i x} hx => by
    rcases Nat.lt_or_ge i h.length with hi | hi
    · rw [List.getElem?_append_left hi] at hx
      exact .inl ⟨hi, hx⟩
    · rw [List.getElem?_append_right hi] at hx
      have : i - h.length = 0 := by
        rcases Nat.eq_zero_or_pos (i - h.length) with h0 | h0
        · exact h0
        · rw [List.getElem?_eq_none (by simp; omega)] at hx; cases hx
      rw [this] at hx
      simp only [List.getElem?_cons_zero, Option.some.injEq] at hx
      exact .inr ⟨by omega, hx.symm⟩
  obtain ⟨g, C, e, cur, xr⟩ := r'.row _ _ _ _ _ hr
  refine ⟨⟨r'.fz, fun i k1 gen1 els1 ex1 hi => ?_, fun i es c hi => ?_, fun i gn hn => ?_, fun i hn => ?_, ?_, ?_⟩, ⟨he.fz, fun i gn x hx => ?_, fun i x hx => ?_⟩⟩
  · rcases dn hi with ⟨hlt, h1⟩ | ⟨rfl, h1⟩
    · obtain ⟨g1, C1, e1, cur1, x⟩ := r'.row _ _ _ _ _ (by rw [hold i hlt]; exact h1)
      have hl := r.rowLt h1
      simp only [AM.rowLt] at hl
      refine ⟨g1, C1, e1, cur1, ⟨mv.row _ _ _ hlt x.mp, x.pos, x.heap, x.own, x.size, x.len, x.exact, x.ty, x.most, x.all, CL.move mv _ _ hl x.cells, fun gn hg => ?_⟩⟩
      simp only [AM.pick, hlt, if_true] at hg
      exact x.gens gn hg
    · injection h1 with a1 a2 a3 a4
      subst a1; subst a2; subst a3; subst a4
      refine ⟨g, C, e, cur, ⟨by simp [AM.pick, xr.mp], xr.pos, xr.heap, xr.own, xr.size, xr.len, fun hx => (by rw [hfl] at hx; cases hx), (by rw [hty]; exact xr.ty), xr.most, xr.all, CL.move mv _ _ (idfreeL_lt _ _ hf) xr.cells, fun gn hg => ?_⟩⟩
      simp only [AM.pick, Nat.lt_irrefl, if_false, true_and] at hg
      split at hg
      · omega
      · exact (hg rfl).elim
  · rcases dn hi with ⟨hlt, h1⟩ | ⟨rfl, h1⟩
    · obtain ⟨g1, ents, x⟩ := r'.map _ _ _ (by rw [hold i hlt]; exact h1)
      exact ⟨g1, ents, ⟨mv.map _ _ hlt x.mp, x.heap, x.own, EntR_move mv (r.rowLt h1) x.ents⟩⟩
    · cases h1
  · simp only [AM.pick] at hn
    simp only [List.length_append, List.length_singleton]
    split at hn
    · omega
    · split at hn
      · omega
      · exact (hn rfl).elim
  · simp only [AM.pick] at hn
    simp only [List.length_append, List.length_singleton]
    split at hn
    · omega
    · exact (hn rfl).elim
  · intro i1 i2 k1 gen1 els1 ex1 k2 gen2 els2 ex2 gg C1 C2 q1 q2 h1 h2 h3 h4
    rcases dn h1 with ⟨l1, e1⟩ | ⟨rfl, e1⟩ <;> rcases dn h2 with ⟨l2, e2⟩ | ⟨rfl, e2⟩
    · simp only [AM.pick, l1, l2, if_true] at h3 h4
      exact r'.inj i1 i2 _ _ _ _ _ _ _ _ _ _ _ _ _ (by rw [hold i1 l1]; exact e1) (by rw [hold i2 l2]; exact e2) h3 h4
    · injection e2 with a1 a2
      subst a2
      simp only [AM.pick, l1, if_true] at h3
      simp only [AM.pick, Nat.lt_irrefl, if_false, and_self, if_true] at h4
      have := r'.inj i1 id _ _ _ _ _ _ _ _ _ _ _ _ _ (by rw [hold i1 l1]; exact e1) hr h3 h4
      omega
    · injection e1 with a1 a2
      subst a2
      simp only [AM.pick, l2, if_true] at h4
      simp only [AM.pick, Nat.lt_irrefl, if_false, and_self, if_true] at h3
      have := r'.inj id i2 _ _ _ _ _ _ _ _ _ _ _ _ _ hr (by rw [hold i2 l2]; exact e2) h3 h4
      omega
    · rfl
  · intro i1 i2 es c es' c' g1 h1 h2 h3 h4
    rcases dn h1 with ⟨l1, e1⟩ | ⟨rfl, e1⟩ <;> rcases dn h2 with ⟨l2, e2⟩ | ⟨rfl, e2⟩
    · simp only [AM.pick, l1, l2, if_true] at h3 h4
      exact r'.injM i1 i2 _ _ _ _ _ (by rw [hold i1 l1]; exact e1) (by rw [hold i2 l2]; exact e2) h3 h4
    · cases e2
    · cases e1
    · rfl
  · exact mv.row _ _ _ (r.fresh i gn (by rw [hx]; simp)) (he.row _ _ _ hx)
  · exact mv.map _ _ (r.freshM i (by rw [hx]; simp)) (he.map _ _ hx)

end Go.AM
