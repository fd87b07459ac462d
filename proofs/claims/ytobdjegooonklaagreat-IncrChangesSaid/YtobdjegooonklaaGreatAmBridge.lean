/- From the abstract machine to a law's row. Conditions: none. -/
import Derived.Test.YtobdjegooonklaaGreatAmLaw
import Derived.ProofKit
import Derived.Deep.Slices
import Derived.Deep.Strs
set_option linter.unusedVariables false
set_option linter.unusedSimpArgs false
namespace Go.AM
open Go Go.ChangeShapes Go.RowKit

/-- All memory that is there. -/
def F0 (W : World) : Fz := fun b => W.heap[b]?
def m0 : Mp := ⟨fun _ _ => none, fun _ => none⟩

theorem rel0 (W : World) : Rel (F0 W) m0 [] W := by
  refine ⟨fun b o h => h, fun id k gen els ex h => by simp at h, fun id es c h => by simp at h, fun id gen h => (h rfl).elim, fun id h => (h rfl).elim, fun id id' k gen els ex k' gen' els' ex' g C C' r r' h => by simp at h, fun id id' es c es' c' g h => by simp at h⟩

theorem below_of {W w' : World} {F' : Fz} {m' : Mp} {h : Heap} (he : Ext (F0 W) m0 F' m') (r : Rel F' m' h w') (hs : Same W w') : Below W.heap.size W w' := by
  refine ⟨hs.os, hs.tape, hs.output, hs.size, fun k hk => ?_⟩
  have h1 : F0 W k = some W.heap[k] := Array.getElem?_eq_getElem hk
  rw [r.fz k _ (he.fz k _ h1)]
  exact (Array.getElem?_eq_getElem hk).symm

/-- A call that the abstract machine ends with a bool. -/
theorem law_calls {E : Env} (H : E.OK) {n : Nat} {f : FuncId} {fn : Func} {c : Code} (hf : E.P.funcs[f]? = some fn) (hb : fn.body = some c) (hn : (fn.name == "runtime.NumGoroutine") = false) {args : List AV} {vs : List Value} {W : World} {b : Bool} {h : Heap} {e : Eff}
    (hc : call E n f args [] = some (.v (.bool b), h, e)) (hv : VL (F0 W) m0 args vs) : Calls E.P f vs.toArray W fun e W' => e = .returned (.bool b) ∧ Below W.heap.size W W' := by
  have key := (call_ok H n).1 _ _ _ _ _ _ hc (F0 W) m0 W vs (rel0 W) hv (fun v w' => v = .bool b ∧ Below W.heap.size W w') (fun v w' F' m' he hvr hr hsm => by
    simp only [VRel] at hvr
    exact ⟨hvr.2, below_of he hr hsm⟩)
  rw [callFunc_enter hf hb hn] at key
  simp only [UponC] at key
  refine key.mono ?_
  rintro e w' ⟨v, rfl, rfl, hbl⟩
  exact ⟨rfl, hbl⟩

section
variable {H : Type} {enc : TypeId × Value → H} {P : Program}

/-- What was read is read again. -/
theorem trodAll_stays (hl : laidOutB P = true) {sp : Nat → Bool} {W W' : World} (hb : Below W.heap.size W W') : ∀ {ts : List TypeId} {vs : List Value} {ds : List (DataW H)} {ps : List MemPlace}, (ts.all fun t => P.readableRec t && decide (t < P.types.size)) = true →
    DataW.TrodAll enc P W 0 (fun _ => true) true ts vs ds ps → (∀ x ∈ ps, x.block < W.heap.size) → (∀ x ∈ ps, sp x.block = true) → DataW.TrodAll enc P W' 0 sp true ts vs ds ps
  | [], [], [], ps, _, h, _, _ => h
  | [], [], _ :: _, ps, _, h, _, _ => by simp [DataW.TrodAll] at h
  | [], _ :: _, _, ps, _, h, _, _ => by simp [DataW.TrodAll] at h
  | _ :: _, [], _, ps, _, h, _, _ => by simp [DataW.TrodAll] at h
  | _ :: _, _ :: _, [], ps, _, h, _, _ => by simp [DataW.TrodAll] at h
  | t :: ts, v :: vs, d :: ds, ps, ht, h, hp, hq => by
    simp only [List.all_cons, Bool.and_eq_true, decide_eq_true_eq] at ht
    simp only [DataW.TrodAll] at h ⊢
    obtain ⟨p, q, h1, h2, rfl⟩ := h
    refine ⟨p, q, WideElems.Trod_stays hl ht.1.1 ht.1.2 h1 (fun x hx => hb.same (hp x (List.mem_append_left _ hx))) (fun x hx => hq x (List.mem_append_left _ hx)), trodAll_stays hl hb ?_ h2 (fun x hx => hp x (List.mem_append_right _ hx)) (fun x hx => hq x (List.mem_append_right _ hx)), rfl⟩
    simpa [List.all_eq_true] using ht.2

/-- What a row asks of a law that is true. -/
theorem law_post (hl : laidOutB P = true) {f : Func} {s : ChangeSpec} {W W' : World} {args : Array Value} {ds : List (DataW H)} {before : List MemPlace} {tb : TypeId} (hvars : s.vars = []) (hres : f.resultTypes = #[tb]) (htb : P.underlying tb = some .bool)
    (hts : (f.params.toList.all fun t => P.readableRec t && decide (t < P.types.size)) = true) (hW : DataW.Whole enc P f.params.toList s.vars false W args.toList ds [] before)
    (hfn : s.fn H ds = { results := [.lit (.bool true)], args := ds }) (hb : Below W.heap.size W W') : s.post enc P f false true false false W args (.bool true) W' := by
  have hlt : ∀ x ∈ before, x.block < W.heap.size := fun x hx => by simpa using hW.lt x hx
  have hpa : DataW.TrodAll enc P W 0 (fun _ => true) true f.params.toList args.toList ds before := by
    obtain ⟨pa, pv, h1, h2, h3, _, _⟩ := hW
    rw [hvars] at h2
    obtain ⟨_, rfl⟩ := trodVars_none h2
    rw [h3, List.append_nil]
    exact h1
  have hdt : ∀ (w : World) (b : Nat) (sp : Nat → Bool) (hd : Bool), DataW.trod enc P w b sp hd 1 tb [.bool true] = some (.lit (.bool true), []) := fun w b sp hd => by
    unfold DataW.trod
    rw [htb]
  have hf0 : s.fn H (ds ++ []) = { results := [.lit (.bool true)], args := ds } := by rw [List.append_nil]; exact hfn
  have hres' : ∀ (b : Nat) (sp : Nat → Bool) (hd : Bool), DataW.TrodAll enc P W' b sp hd f.resultTypes.toList ((Value.bool true).resultList f.resultTypes.size) (s.fn H (ds ++ [])).results [] := fun b sp hd => by
    rw [hf0, hres]
    exact trodAll_mk1 ⟨1, hdt _ _ _ _⟩
  have hargs : ∀ sp : Nat → Bool, (∀ p ∈ before, sp p.block = true) → DataW.TrodAll enc P W' 0 sp true f.params.toList args.toList (s.fn H (ds ++ [])).args before := fun sp hsp => by
    rw [hf0]
    exact trodAll_stays hl hb hts hpa hlt hsp
  have hvs : ∀ sp : Nat → Bool, DataW.TrodVars enc P W' sp s.vars (s.fn H (ds ++ [])).vars [] := fun sp => by
    rw [hf0, hvars]
    exact rfl
  have hold : ∀ p ∈ before, (fun b => decide (b < W.heap.size)) p.block = true := fun p hp => by simpa using hlt p hp
  refine ⟨ds, [], before, [], before, [], hW, hres' _ _ _, hargs _ hold, hvs _, World.keptBut_mono (fun p hp => ⟨hp, ?_⟩) (Below.frame hb (· ∈ before)), fun _ => ?_⟩
  · exact Or.inr (by simpa using hp)
  · obtain ⟨_, _, _, _, _, hz, hn⟩ := hW
    refine ⟨ok_one hres rfl (by simp [Value.okWide, htb, Cell.okWide, Cell.ok]), _, _, ([] ++ before) ++ [], ⟨[] ++ before, [], trodAll_append (hargs _ (fun _ _ => rfl)) (hres' _ _ _), hvs _, rfl, ?_, ?_⟩, ?_⟩
    · intro b off hp
      have hp' : MemPlace.cell b off ∈ before := by simpa using hp
      rw [Below.frozen hb (p := ⟨b, off, none⟩) (hlt _ hp')]
      exact hz b off hp'
    · intro ha
      cases ha
    · intro p hp _
      exact by simpa using hp

/-- An element's cells as an abstract value. -/
def Elem (k : Nat) (good : AV → Prop) (cs : List Value) : Prop := ∃ x y, good x ∧ toV x = some y ∧ y.cells.toList = cs ∧ leafs x = k

theorem els_of {W : World} {a : Addr} {k : Nat} {good : AV → Prop} (hs : a.spot = none) : ∀ (n : Nat), (∀ i, i < n → ∃ cs, W.cells? 0 (a.add (i * k)) k = some cs ∧ Elem k good cs) →
    ∃ (l : List AV) (cs : List Value), l.length = n ∧ (∀ x ∈ l, good x) ∧ allK k l = true ∧ CL (F0 W) m0 l cs ∧ FC (F0 W) a cs
  | 0, _ => ⟨[], [], rfl, fun _ h => (by cases h), rfl, rfl, fun j v h => by simp at h⟩
  | n + 1, h => by
    obtain ⟨l, cs, h1, h2, h3, h4, h5⟩ := els_of hs n (fun i hi => h i (Nat.lt_succ_of_lt hi))
    obtain ⟨cs', c1, x, y, c2, c3, c4, c5⟩ := h n (Nat.lt_succ_self n)
    obtain ⟨v1, v2⟩ := toV_self (F := F0 W) (m := m0) x y c3
    have hlen : cs.length = n * k := by rw [CL.size l cs h4, allK_leafs h3, h1]
    refine ⟨l ++ [x], cs ++ cs', by simp [h1], fun z hz => ?_, by rw [allK_append, h3]; simp [allK, c5], CL_append h4 ?_, fun j v hj => ?_⟩
    · rcases List.mem_append.1 hz with hz | hz
      · exact h2 z hz
      · rw [List.mem_singleton.1 hz]; exact c2
    · simp only [CL]
      exact ⟨y, [], v1, v2, rfl, by rw [c4]; simp⟩
    · rcases Nat.lt_or_ge j cs.length with hj1 | hj1
      · rw [List.getElem?_append_left hj1] at hj
        exact h5 j v hj
      · rw [List.getElem?_append_right hj1] at hj
        obtain ⟨_, q2, q3⟩ := World.cells?_some c1
        have hjk : j - cs.length < k := by
          have := (List.getElem?_eq_some_iff.1 hj).1
          omega
        have hc := q3 (j - cs.length) hjk
        rw [hj] at hc
        unfold World.cell? at hc
        split at hc
        · rename_i c e fr hh
          split at hc
          · cases hc
          · have hb : ((a.add (n * k)).add (j - cs.length)).block = a.block := by unfold Addr.add; split <;> split <;> rfl
            have ho : ((a.add (n * k)).add (j - cs.length)).off = a.off + j := by
              unfold Addr.add
              split <;> split <;> simp <;> omega
            rw [hb] at hh
            rw [ho] at hc
            exact ⟨c, e, fr, hh, hc⟩
        · cases hc

/-- A slice that the law is called with. -/
theorem arg_slice {W : World} {t e : TypeId} {k : Nat} (ht : P.underlying t = some (.slice e)) (hk : P.cellsOf e = k) {v : Value} {d : DataW H} {ps : List MemPlace} {base : Nat} (hval : Value.okWide P W .any base t v) (h : DataW.Trod enc P W 0 (fun _ => true) true t v d ps) {good : AV → Prop}
    (hel : ∀ n cs x, DataW.trod enc P W 0 (fun _ => true) true n e cs = some x → Elem k good cs) : ∃ x, VRel (F0 W) m0 x v ∧ (x = .v (.slice none 0 0) ∨ ∃ l, x = .lit k false l ∧ ∀ y ∈ l, good y) := by
  obtain ⟨fuel, h⟩ := h
  have hcell : Cell.okWide P W .any base t v := by simpa [Value.okWide, ht] using hval
  rcases Go.Deep.open_slice ht h with ⟨hcs, _⟩ | ⟨a, len, cap, m, n, D, Pl, hcs, hb, hl, hm, hmm, _, hi⟩
  · have hv : v = .slice none 0 0 := by
      cases v <;> simp_all [Value.cells, Cell.okWide, Cell.ok]
    subst hv
    exact ⟨.v (.slice none 0 0), by simp [VRel, free], .inl rfl⟩
  · have hv : v = .slice (some a) len cap := by
      cases v <;> simp_all [Value.cells, Cell.okWide, Cell.ok]
    subst hv
    have hspot : a.spot = none := by
      simp only [Cell.okWide, ht, Cell.ok, World.has] at hcell
      exact hcell.2.2.2.1
    have hlm : len ≤ m := by rw [hmm]; simpa using hl
    obtain ⟨l, cs, q1, q2, q3, q4, q5⟩ := els_of (good := good) (k := k) hspot len (fun i hi' => by
      obtain ⟨cs', c1, c2⟩ := hi i (by omega)
      rw [hk] at c1
      exact ⟨cs', c1, hel _ _ _ c2⟩)
    refine ⟨.lit k false l, ?_, .inr ⟨l, rfl, q2⟩⟩
    simp only [VRel]
    exact ⟨a, cap, cs, q4, q3, q5, hspot, by rw [q1]; exact hl, (fun h => nomatch h), (by rw [q1])⟩

/-- A string that the law is called with. -/
theorem arg_string {W : World} {t : TypeId} (ht : P.underlying t = some .string) {v : Value} {d : DataW H} {ps : List MemPlace} {base : Nat} (hval : Value.okWide P W .any base t v) (h : DataW.Trod enc P W 0 (fun _ => true) true t v d ps) :
    ∃ s : ByteArray, v = .string s ∧ s.size ≤ maxLen := by
  obtain ⟨fuel, h⟩ := h
  have hcell : Cell.okWide P W .any base t v := by simpa [Value.okWide, ht] using hval
  obtain ⟨s, h1, _, h2⟩ := DataW.trod_string ht h
  refine ⟨s, ?_, h2⟩
  cases v <;> simp_all [Value.cells, Cell.okWide, Cell.ok]
end

end Go.AM
