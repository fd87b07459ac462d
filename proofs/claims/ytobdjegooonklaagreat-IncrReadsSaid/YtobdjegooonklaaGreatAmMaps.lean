/- Maps of the abstract machine are those of the real one. Conditions: none. -/
import Derived.Test.YtobdjegooonklaaGreatAmBuilt
set_option linter.unusedVariables false
set_option linter.unusedSimpArgs false
namespace Go.AM
open Go

variable {F : Fz} {m : Mp} {fr : FR} {a : Act} {h : Heap} {w : World} {P : Program}

theorem prun_bind {α β : Type} (e : Sem α) (f : α → Sem β) : prun P (e >>= f) = (match prun P e with | some a => prun P (f a) | none => none) := by
  show prun P (e.bind f) = _
  induction e with
  | pure a => simp [Sem.bind, prun]
  | program k ih => simp only [Sem.bind, prun]; exact ih P
  | mark mk k ih => simp only [Sem.bind, prun]; exact ih
  | choose q k ih =>
    simp only [Sem.bind, prun]
    cases q.forced with
    | false => simp
    | true => simpa using ih 0
  | _ => simp [Sem.bind, prun]

theorem prun_pure {α : Type} (a : α) : prun P (pure a : Sem α) = some a := rfl

/-! ### Finding a key: the values make no difference -/
theorem findNow_keys {kd : TypeDesc} {k : Value} : ∀ (es es' : List MapEntry) (i : Nat), es.map (·.key) = es'.map (·.key) →
    (Instr.findNow kd k es i = none ↔ Instr.findNow kd k es' i = none) ∧
    (∀ r, Instr.findNow kd k es i = some r → ∃ r', Instr.findNow kd k es' i = some r' ∧ r.map (·.1) = r'.map (·.1) ∧ (∀ j v, r' = some (j, v) → i ≤ j ∧ ∃ e, es'[j - i]? = some e ∧ e.val = v))
  | [], es', i, hk => by
    have : es' = [] := by simpa using hk.symm
    subst this
    simp [Instr.findNow]
  | e :: es, es', i, hk => by
    cases es' with
    | nil => simp at hk
    | cons e' es' =>
      simp only [List.map_cons, List.cons.injEq] at hk
      obtain ⟨h1, h2⟩ := findNow_keys es es' (i + 1) hk.2 (kd := kd) (k := k)
      simp only [Instr.findNow, hk.1]
      cases Instr.sameNow kd k e'.key with
      | none => simp
      | some b =>
        cases b with
        | true =>
          simp only [reduceCtorEq, Option.some.injEq, true_and]
          intro r hr
          subst hr
          exact ⟨_, rfl, rfl, fun j v hj => by injection hj with hj; injection hj with hj1 hj2; subst hj1; subst hj2; exact ⟨Nat.le_refl _, e', by simp, rfl⟩⟩
        | false =>
          refine ⟨h1, fun r hr => ?_⟩
          obtain ⟨r', r1, r2, r3⟩ := h2 r hr
          refine ⟨r', r1, r2, fun j v hj => ?_⟩
          obtain ⟨g1, e0, g2, g3⟩ := r3 j v hj
          refine ⟨by omega, e0, ?_, g3⟩
          rw [show j - i = (j - (i + 1)) + 1 by omega]
          simpa using g2

theorem findAsking_keys {kt : TypeId} {k : Value} : ∀ (es es' : List MapEntry) (i : Nat), es.map (·.key) = es'.map (·.key) → ∀ r, prun P (Instr.findAsking kt k es i) = some r →
    ∃ r', prun P (Instr.findAsking kt k es' i) = some r' ∧ r.map (·.1) = r'.map (·.1) ∧ (∀ j v, r' = some (j, v) → i ≤ j ∧ ∃ e, es'[j - i]? = some e ∧ e.val = v)
  | [], es', i, hk, r, hr => by
    have : es' = [] := by simpa using hk.symm
    subst this
    simp only [Instr.findAsking, prun_pure, Option.some.injEq] at hr
    subst hr
    exact ⟨none, rfl, rfl, by simp⟩
  | e :: es, es', i, hk, r, hr => by
    cases es' with
    | nil => simp at hk
    | cons e' es' =>
      simp only [List.map_cons, List.cons.injEq] at hk
      simp only [Instr.findAsking, prun_bind, hk.1] at hr ⊢
      cases hq : prun P (Op.equal kt k e'.key) with
      | none => simp [hq] at hr
      | some b =>
        simp only [hq] at hr ⊢
        cases b with
        | true =>
          simp only [if_true, prun_pure, Option.some.injEq] at hr ⊢
          subst hr
          exact ⟨_, rfl, rfl, fun j v hj => by injection hj with hj; injection hj with hj1 hj2; subst hj1; subst hj2; exact ⟨Nat.le_refl _, e', by simp, rfl⟩⟩
        | false =>
          simp only [Bool.false_eq_true, if_false] at hr ⊢
          obtain ⟨r', r1, r2, r3⟩ := findAsking_keys es es' (i + 1) hk.2 r hr
          refine ⟨r', r1, r2, fun j v hj => ?_⟩
          obtain ⟨g1, e0, g2, g3⟩ := r3 j v hj
          refine ⟨by omega, e0, ?_, g3⟩
          rw [show j - i = (j - (i + 1)) + 1 by omega]
          simpa using g2

theorem prun_underlying {t : TypeId} {d : TypeDesc} (hu : P.underlying t = some d) : prun P (underlying t) = some d := by
  unfold underlying
  rw [prun_bind]
  show prun P (match P.underlying t with | some d => pure d | none => stuck "no such type" : Sem TypeDesc) = some d
  rw [hu]
  rfl

theorem findKey_keys {kt : TypeId} {k : Value} {es es' : List MapEntry} (hk : es.map (·.key) = es'.map (·.key)) {r : Option (Nat × Value)} (hr : prun P (Instr.findKey kt k es) = some r) :
    ∃ r', prun P (Instr.findKey kt k es') = some r' ∧ r.map (·.1) = r'.map (·.1) ∧ (∀ j v, r' = some (j, v) → ∃ e, es'[j]? = some e ∧ e.val = v) := by
  unfold Instr.findKey at hr ⊢
  simp only [prun_bind] at hr ⊢
  cases hu : prun P (underlying kt) with
  | none => simp [hu] at hr
  | some d =>
    simp only [hu] at hr ⊢
    obtain ⟨f1, f2⟩ := findNow_keys (kd := d) (k := k) es es' 0 hk
    cases hn : Instr.findNow d k es 0 with
    | some q =>
      rw [hn] at hr
      simp only [prun_pure, Option.some.injEq] at hr
      subst hr
      obtain ⟨r', r1, r2, r3⟩ := f2 q hn
      rw [r1]
      exact ⟨r', rfl, r2, fun j v hj => by simpa using (r3 j v hj).2⟩
    | none =>
      rw [hn] at hr
      rw [f1.1 hn]
      obtain ⟨r', r1, r2, r3⟩ := findAsking_keys es es' 0 hk r hr
      exact ⟨r', r1, r2, fun j v hj => by simpa using (r3 j v hj).2⟩

theorem keysV_rel : ∀ {es : List (AV × AV × Nat)} {vs ents : List MapEntry}, keysV es = some vs → EntR F m es ents → vs.map (·.key) = ents.map (·.key) ∧ ents.length = es.length
  | [], vs, ents, hk, he => by
    simp only [EntR] at he
    simp only [keysV, Option.some.injEq] at hk
    subst hk; subst he
    exact ⟨rfl, rfl⟩
  | (k, x, b) :: l, vs, ents, hk, he => by
    simp only [EntR] at he
    obtain ⟨e, r, h1, h2, h3, h4, rfl⟩ := he
    simp only [keysV] at hk
    cases hx : toV k with
    | none => simp [hx] at hk
    | some v =>
      cases hl : keysV l with
      | none => simp [hx, hl] at hk
      | some l' =>
        simp only [hx, hl, Option.some.injEq] at hk
        subst hk
        obtain ⟨g1, g2⟩ := keysV_rel hl h4
        exact ⟨by simp [g1, toV_rel k v hx _ h1], by simp [g2]⟩

/-- Where a key stands. -/
theorem findE_run {kt : TypeId} {em : Bool} {es : List (AV × AV × Nat)} {key : AV} {kv : Value} {ents : Array MapEntry} {q : Option Nat} (hf : findE P kt em es key = some q) (he : EntR F m es ents.toList) (hk : VRel F m key kv) (w : World) :
    toV key = some kv ∧ (Instr.checkKey em 10000 kt kv).run P w = .ok () w ∧ ∃ r, (Instr.findKey kt kv ents.toList).run P w = .ok r w ∧ r.map (·.1) = q ∧ (∀ j v, r = some (j, v) → ∃ e, ents[j]? = some e ∧ e.val = v) := by
  unfold findE at hf
  split at hf
  · rename_i vs k hv ht
    have hkv := toV_rel key k ht kv hk
    subst hkv
    obtain ⟨g1, g2⟩ := keysV_rel hv he
    rw [prun_bind] at hf
    cases hc : prun P (Instr.checkKey em 10000 kt kv) with
    | none => simp [hc] at hf
    | some u =>
      simp only [hc] at hf
      cases hfk : prun P (Instr.findKey kt kv vs) with
      | none => simp [hfk] at hf
      | some r =>
        obtain ⟨r', r1, r2, r3⟩ := findKey_keys g1 hfk
        refine ⟨ht, prun_run _ _ hc w, r', prun_run _ _ r1 w, ?_, fun j v hj => by obtain ⟨e, e1, e2⟩ := r3 j v hj; exact ⟨e, by simpa using e1, e2⟩⟩
        rw [← r2]
        cases r with
        | none => simp [hfk] at hf; simp [hf]
        | some p => obtain ⟨j, v⟩ := p; simp [hfk] at hf; simp [hf]
  · cases hf

theorem isEmpty_ents {es : List (AV × AV × Nat)} {ents : Array MapEntry} (h : ents.toList.length = es.length) : ents.isEmpty = es.isEmpty := by
  cases es with
  | nil => simp at h; simp [Array.isEmpty, h]
  | cons e es => simp at h; simp [Array.isEmpty, h]

theorem EntR_get : ∀ {es : List (AV × AV × Nat)} {ents : List MapEntry} {i : Nat} {k x : AV} {b : Nat}, EntR F m es ents → es[i]? = some (k, x, b) → ∃ e, ents[i]? = some e ∧ VRel F m k e.key ∧ VRel F m x e.val ∧ e.born = b
  | [], ents, i, k, x, b, _, hi => by simp at hi
  | (k', x', b') :: l, ents, i, k, x, b, he, hi => by
    simp only [EntR] at he
    obtain ⟨e, r, h1, h2, h3, h4, rfl⟩ := he
    cases i with
    | zero =>
      simp at hi
      obtain ⟨rfl, rfl, rfl⟩ := hi
      exact ⟨e, by simp, h1, h2, h3⟩
    | succ i =>
      simp at hi
      obtain ⟨e', g1, g2⟩ := EntR_get h4 hi
      exact ⟨e', by simpa using g1, g2⟩

theorem EntR_set : ∀ {es : List (AV × AV × Nat)} {ents : List MapEntry} {i : Nat} {k x : AV} {b : Nat} {e : MapEntry}, EntR F m es ents → i < es.length → VRel F m k e.key → VRel F m x e.val → e.born = b → EntR F m (es.set i (k, x, b)) (ents.set i e)
  | [], ents, i, k, x, b, e, _, hi, _, _, _ => by simp at hi
  | (k', x', b') :: l, ents, i, k, x, b, e, he, hi, hk, hx, hb => by
    simp only [EntR] at he
    obtain ⟨e', r, h1, h2, h3, h4, rfl⟩ := he
    cases i with
    | zero => simp only [List.set_cons_zero, EntR]; exact ⟨e, r, hk, hx, hb, h4, rfl⟩
    | succ i => simp only [List.set_cons_succ, EntR]; exact ⟨e', _, h1, h2, h3, EntR_set h4 (by simpa using hi) hk hx hb, rfl⟩

theorem EntR_append : ∀ {es : List (AV × AV × Nat)} {ents : List MapEntry} {k x : AV} {b : Nat} {e : MapEntry}, EntR F m es ents → VRel F m k e.key → VRel F m x e.val → e.born = b → EntR F m (es ++ [(k, x, b)]) (ents ++ [e])
  | [], ents, k, x, b, e, he, hk, hx, hb => by
    simp only [EntR] at he
    subst he
    simp only [List.nil_append, EntR]
    exact ⟨e, [], hk, hx, hb, rfl, rfl⟩
  | (k', x', b') :: l, ents, k, x, b, e, he, hk, hx, hb => by
    simp only [EntR] at he
    obtain ⟨e', r, h1, h2, h3, h4, rfl⟩ := he
    simp only [List.cons_append, EntR]
    exact ⟨e', _, h1, h2, h3, EntR_append h4 hk hx hb, rfl⟩

theorem EntR_erase : ∀ {es : List (AV × AV × Nat)} {ents : List MapEntry} {i : Nat}, EntR F m es ents → EntR F m (es.eraseIdx i) (ents.eraseIdx i)
  | [], ents, i, he => by
    simp only [EntR] at he
    subst he
    simp [EntR]
  | (k', x', b') :: l, ents, i, he => by
    simp only [EntR] at he
    obtain ⟨e', r, h1, h2, h3, h4, rfl⟩ := he
    cases i with
    | zero => simpa using h4
    | succ i => simp only [List.eraseIdx_cons_succ, EntR]; exact ⟨e', _, h1, h2, h3, EntR_erase h4, rfl⟩

theorem EntR_len : ∀ {es : List (AV × AV × Nat)} {ents : List MapEntry}, EntR F m es ents → ents.length = es.length
  | [], ents, he => by simp only [EntR] at he; simp [he]
  | (k', x', b') :: l, ents, he => by
    simp only [EntR] at he
    obtain ⟨e', r, h1, h2, h3, h4, rfl⟩ := he
    simp [EntR_len h4]

/-! ### A map written -/
def setObjW (w : World) (g : Nat) (o : Obj) : World := { w with heap := w.heap.setIfInBounds g o }

theorem setObj_run {g : Nat} {es : Array MapEntry} {c : Nat} (hg : w.heap[g]? = some (.map es c)) (o : Obj) : (setObj g o).run P w = .ok () (setObjW w g o) := by
  simp [setObj, Sem.run, hg, setObjW]

theorem getObj_run {g : Nat} {es : Array MapEntry} {c : Nat} (hg : w.heap[g]? = some (.map es c)) : (getObj g).run P w = .ok (.map es c) w := by
  simp [getObj, Sem.run, hg]

theorem Rel.setMap (r : Rel F m h w) {id g c c' : Nat} {es es' : List (AV × AV × Nat)} {ents ents' : Array MapEntry} (hi : h[id]? = some (.map es c)) (x : MapR F m w id es c g ents) (he : EntR F m es' ents'.toList) :
    Rel F m (h.set id (.map es' c')) (setObjW w g (.map ents' c')) := by
  have hgs := (Array.getElem?_eq_some_iff.1 x.heap).1
  have hother : ∀ b, b ≠ g → (setObjW w g (.map ents' c')).heap[b]? = w.heap[b]? := fun b hb => by
    simp only [setObjW]
    rw [Array.getElem?_setIfInBounds_ne (fun e => hb e.symm)]
  have hself : (setObjW w g (.map ents' c')).heap[g]? = some (.map ents' c') := by
    simp only [setObjW]
    rw [Array.getElem?_setIfInBounds_self_of_lt hgs]
  refine ⟨fun b o hb => ?_, fun id1 k1 gen1 els1 ex1 h1 => ?_, fun id1 es1 c1 h1 => ?_, fun i gn hn => by simpa using r.fresh i gn hn, fun i hn => by simpa using r.freshM i hn, ?_, ?_⟩
  · rw [hother b (fun hbg => by subst hbg; rw [x.own] at hb; cases hb)]
    exact r.fz b o hb
  · rcases getElem?_set_row h1 with ⟨rfl, h2⟩ | ⟨hne, h2⟩
    · cases h2
    · obtain ⟨g1, C1, e1, cur1, y⟩ := r.row _ _ _ _ _ h2
      have hg : g1 ≠ g := fun hg => by subst hg; have := x.heap; rw [y.heap] at this; cases this
      exact ⟨g1, C1, e1, cur1, ⟨y.mp, y.pos, by rw [hother g1 hg]; exact y.heap, y.own, y.size, y.len, y.exact, y.ty, y.most, y.all, y.cells, y.gens⟩⟩
  · rcases getElem?_set_row h1 with ⟨rfl, h2⟩ | ⟨hne, h2⟩
    · injection h2 with a1 a2
      subst a1; subst a2
      exact ⟨g, ents', ⟨x.mp, hself, x.own, he⟩⟩
    · obtain ⟨g1, ents1, y⟩ := r.map _ _ _ h2
      have hg : g1 ≠ g := fun hg => hne (by subst hg; exact r.injM _ _ _ _ _ _ _ h2 hi y.mp x.mp)
      exact ⟨g1, ents1, ⟨y.mp, by rw [hother g1 hg]; exact y.heap, y.own, y.ents⟩⟩
  · intro id1 id2 k1 gen1 els1 ex1 k2 gen2 els2 ex2 gg C1 C2 r1 r2 h1 h2 h3 h4
    rcases getElem?_set_row h1 with ⟨rfl, e1⟩ | ⟨hne1, e1⟩
    · cases e1
    · rcases getElem?_set_row h2 with ⟨rfl, e2⟩ | ⟨hne2, e2⟩
      · cases e2
      · exact r.inj _ _ _ _ _ _ _ _ _ _ _ _ _ _ _ e1 e2 h3 h4
  · intro id1 id2 es1 c1 es2 c2 gg h1 h2 h3 h4
    rcases getElem?_set_row h1 with ⟨rfl, e1⟩ | ⟨hne1, e1⟩ <;> rcases getElem?_set_row h2 with ⟨rfl, e2⟩ | ⟨hne2, e2⟩
    · rfl
    · exact r.injM _ _ _ _ _ _ _ hi e2 h3 h4
    · exact r.injM _ _ _ _ _ _ _ e1 hi h3 h4
    · exact r.injM _ _ _ _ _ _ _ e1 e2 h3 h4

theorem same_setObj (w : World) (g : Nat) (o : Obj) : Same w (setObjW w g o) := ⟨rfl, rfl, rfl, by simp [setObjW], Nat.le_refl _⟩

/-! ### Lookup, store, len, delete -/
theorem lookupE_run {E : Env} (hE : E.ZerosOK) (r : Rel F m h w) {t : TypeId} {x k y : AV} {xv kv : Value} {ok : Bool} (hx : VRel F m x xv) (hk : VRel F m k kv) (ho : lookupE E h t x k ok = some y) :
    ∃ v, (Instr.lookup t xv kv ok).run E.P w = .ok v w ∧ VRel F m y v := by
  unfold lookupE at ho
  split at ho
  · rename_i kt e hu
    dsimp only at ho
    have fin : ∀ (z : AV) (b : Bool) (v : Value), VRel F m z v → VRel F m (bif ok then .tup [z, .v (.bool b)] else z) (if ok then .tuple #[v, .bool b] else v) := by
      intro z b v hz
      cases ok with
      | false => simpa using hz
      | true =>
        simp only [cond_true, if_true, VRel, VL]
        exact ⟨[v, .bool b], ⟨v, [.bool b], hz, ⟨.bool b, [], by simp [free], rfl, rfl⟩, rfl⟩, rfl⟩
    split at ho
    · rename_i z b hq
      injection ho with ho
      subst ho
      split at hq
      · -- a nil map
        split at hq
        · rename_i z' hf hz
          simp only [Option.some.injEq, Prod.mk.injEq] at hq
          obtain ⟨rfl, rfl⟩ := hq
          simp only [VRel] at hx
          obtain ⟨_, rfl⟩ := hx
          obtain ⟨_, f1, q, f2, f3, _⟩ := findE_run (P := E.P) (ents := #[]) hf (by simp [EntR]) hk w
          have hqn : q = none := by cases q <;> simp_all
          subst hqn
          obtain ⟨v, v1, v2, v3, v4⟩ := zero_run (F := F) (m := m) hE hz w
          refine ⟨_, ?_, fin _ false v v2⟩
          simp at f1 f2
          simp [-bind_pure_comp, Instr.lookup, run_underlying hu, f1, f2, v1]
        · cases hq
      · -- a map
        rename_i id
        split at hq
        · rename_i es c hr
          obtain ⟨g, ents, xm⟩ := r.map _ _ _ hr
          simp only [VRel] at hx
          obtain ⟨g', hg', rfl⟩ := hx
          rw [xm.mp] at hg'
          injection hg' with hg'
          subst hg'
          split at hq
          · rename_i i hf
            split at hq
            · rename_i k0 x0 b0 hes
              simp only [Option.some.injEq, Prod.mk.injEq] at hq
              obtain ⟨rfl, rfl⟩ := hq
              obtain ⟨_, f1, q, f2, f3, f4⟩ := findE_run (P := E.P) hf xm.ents hk w
              cases q with
              | none => simp at f3
              | some p =>
                obtain ⟨j, v⟩ := p
                simp at f3
                subst f3
                obtain ⟨e1, e2, e3⟩ := f4 j v rfl
                obtain ⟨e4, e5, e6, e7, _⟩ := EntR_get xm.ents hes
                rw [Array.getElem?_toList, e2] at e5
                injection e5 with e5
                subst e5
                refine ⟨_, ?_, fin _ true v (by rw [← e3]; exact e7)⟩
                rw [← isEmpty_ents (EntR_len xm.ents)] at f1
                simp [-bind_pure_comp, Instr.lookup, run_underlying hu, getObj_run xm.heap, f1, f2]
            · cases hq
          · rename_i hf
            split at hq
            · rename_i z' hz
              simp only [Option.some.injEq, Prod.mk.injEq] at hq
              obtain ⟨rfl, rfl⟩ := hq
              obtain ⟨_, f1, q, f2, f3, f4⟩ := findE_run (P := E.P) hf xm.ents hk w
              have hqn : q = none := by cases q <;> simp_all
              subst hqn
              obtain ⟨v, v1, v2, v3, v4⟩ := zero_run (F := F) (m := m) hE hz w
              refine ⟨_, ?_, fin _ false v v2⟩
              rw [← isEmpty_ents (EntR_len xm.ents)] at f1
              simp [-bind_pure_comp, Instr.lookup, run_underlying hu, getObj_run xm.heap, f1, f2, v1]
            · cases hq
          · cases hq
        · cases hq
      · cases hq
    · cases ho
  · cases ho

theorem map_row (r : Rel F m h w) {id c : Nat} {mv : Value} {es : List (AV × AV × Nat)} (hm : VRel F m (.map id) mv) (hr : h[id]? = some (.map es c)) : ∃ g ents, MapR F m w id es c g ents ∧ mv = .map (some g) := by
  obtain ⟨g, ents, xm⟩ := r.map _ _ _ hr
  simp only [VRel] at hm
  obtain ⟨g', hg', rfl⟩ := hm
  rw [xm.mp] at hg'
  injection hg' with hg'
  subst hg'
  exact ⟨_, _, xm, rfl⟩

theorem updateE_run {E : Env} (r : Rel F m h w) {t : TypeId} {mp k x : AV} {mv kv xv : Value} {h' : Heap} {id : Nat} (hm : VRel F m mp mv) (hk : VRel F m k kv) (hx : VRel F m x xv) (ho : updateE E h t mp k x = some (h', id)) :
    ∃ w', (Instr.mapUpdate t mv kv xv).run E.P w = .ok () w' ∧ Rel F m h' w' ∧ Same w w' := by
  unfold updateE at ho
  split at ho
  · rename_i kt e id0 hu
    split at ho
    · rename_i es c hr
      obtain ⟨g, ents, xm, rfl⟩ := map_row r hm hr
      split at ho
      · rename_i i hf
        obtain ⟨hkt, f1, q, f2, f3, f4⟩ := findE_run (P := E.P) hf xm.ents hk w
        cases q with
        | none => simp at f3
        | some p =>
          obtain ⟨j, v⟩ := p
          simp at f3
          subst f3
          split at ho
          · rename_i k0 x0 b0 hes
            split at ho
            · rename_i o n h1 h2
              split at ho
              · rename_i kk hks
                simp only [Option.some.injEq, Prod.mk.injEq] at ho
                obtain ⟨rfl, rfl⟩ := ho
                obtain ⟨e4, e5, e6, e7, e8⟩ := EntR_get xm.ents hes
                have hn : n = kv := by rw [hkt] at h2; injection h2 with h2; exact h2.symm
                subst hn
                have ho' : e4.key = o := toV_rel k0 o h1 _ e6
                have hk2 := prun_run _ _ hks w
                have hke : (((ents[j]?).map (·.key)).getD n) = o := by rw [Array.getElem?_toList] at e5; rw [e5]; simp [ho']
                have hkk : kk = o ∨ kk = n := by
                  unfold Instr.keyThatStays at hks
                  split at hks
                  · simp only [prun_pure, Option.some.injEq] at hks; exact .inr hks.symm
                  · rw [show (do let __do_lift ← choose (.extern "map.whichKeyStays" 2); pure (if __do_lift = 0 then n else o) : Sem Value) = (choose (.extern "map.whichKeyStays" 2) >>= fun a => pure (if a = 0 then n else o)) from rfl, prun_bind] at hks
                    simp [choose, prun, Question.forced] at hks
                have hvk : VRel F m k kk := by
                  unfold Instr.keyThatStays at hks
                  split at hks
                  · simp only [prun_pure, Option.some.injEq] at hks; subst hks; exact hk
                  · rw [show (do let __do_lift ← choose (.extern "map.whichKeyStays" 2); pure (if __do_lift = 0 then n else o) : Sem Value) = (choose (.extern "map.whichKeyStays" 2) >>= fun a => pure (if a = 0 then n else o)) from rfl, prun_bind] at hks
                    simp [choose, prun, Question.forced] at hks
                have hjl := lt_of_getElem? hes
                have hmod : (ents.modify j fun e => { e with key := kk, val := xv }).toList = ents.toList.set j { e4 with key := kk, val := xv } := by
                  apply List.ext_getElem?
                  intro q
                  rw [Array.getElem?_toList, Array.getElem?_modify, List.getElem?_set]
                  by_cases hq : j = q
                  · subst hq
                    rw [Array.getElem?_toList] at e5
                    have := (Array.getElem?_eq_some_iff.1 e5).1
                    rw [e5]
                    simp [this]
                  · simp [hq]
                refine ⟨_, ?_, r.setMap (c' := c) hr xm (ents' := ents.modify j fun e => { e with key := kk, val := xv }) (by rw [hmod]; exact EntR_set xm.ents hjl hvk hx e8), same_setObj _ _ _⟩
                simp only [Instr.mapUpdate, Sem.run_bind, run_underlying hu, Result.andThen_ok, getObj_run xm.heap, f1, f2, hke, hk2, setObj_run xm.heap]
              · cases ho
            · cases ho
          · cases ho
      · rename_i hf
        simp only [Option.some.injEq, Prod.mk.injEq] at ho
        obtain ⟨rfl, rfl⟩ := ho
        obtain ⟨hkt, f1, q, f2, f3, f4⟩ := findE_run (P := E.P) hf xm.ents hk w
        have hqn : q = none := by cases q <;> simp_all
        subst hqn
        refine ⟨_, ?_, r.setMap (c' := c + 1) hr xm (ents' := ents.push { key := kv, val := xv, born := c }) (by rw [Array.toList_push]; exact EntR_append xm.ents hk hx rfl), same_setObj _ _ _⟩
        simp only [Instr.mapUpdate, Sem.run_bind, run_underlying hu, Result.andThen_ok, getObj_run xm.heap, f1, f2, setObj_run xm.heap]
      · cases ho
    · cases ho
  · cases ho

theorem deleteE_sound {E : Env} (r : Rel F m h w) {ts : Array TypeId} {mp k y : AV} {mv kv : Value} {h' : Heap} {sto : Option (Nat × Bool)} {cl : Cl} (hm : VRel F m mp mv) (hk : VRel F m k kv) (ho : deleteE E h ts mp k = some (y, h', sto, cl)) (ty : TypeId) :
    GoodV E.P F m w y h' (Builtin.delete_ ts ty #[mv, kv]) := by
  unfold deleteE at ho
  split at ho
  · rename_i t h0
    split at ho
    · rename_i kt e id hu
      split at ho
      · rename_i es c hr
        obtain ⟨g, ents, xm, rfl⟩ := map_row r hm hr
        split at ho
        · rename_i i hf
          simp only [Option.some.injEq, Prod.mk.injEq] at ho
          obtain ⟨rfl, rfl, rfl, rfl⟩ := ho
          obtain ⟨hkt, f1, q, f2, f3, f4⟩ := findE_run (P := E.P) hf xm.ents hk w
          rw [← isEmpty_ents (EntR_len xm.ents)] at f1
          cases q with
          | none => simp at f3
          | some p =>
            obtain ⟨j, v⟩ := p
            simp at f3
            subst f3
            refine ⟨.tuple #[], _, F, m, ?_, Ext.refl _ _, by simp [VRel, VL], r.setMap (c' := c) hr xm (ents' := ents.eraseIdxIfInBounds j) (by rw [Array.toList_eraseIdxIfInBounds]; exact EntR_erase xm.ents), same_setObj _ _ _⟩
            simp only [Builtin.delete_, h0, Sem.run_bind, run_underlying hu, Result.andThen_ok, getObj_run xm.heap, f1, f2, setObj_run xm.heap, Sem.run_pure]
            simp [-bind_pure_comp, run_underlying hu, getObj_run xm.heap, f1, f2, setObj_run xm.heap]
        · rename_i hf
          simp only [Option.some.injEq, Prod.mk.injEq] at ho
          obtain ⟨rfl, rfl, rfl, rfl⟩ := ho
          obtain ⟨hkt, f1, q, f2, f3, f4⟩ := findE_run (P := E.P) hf xm.ents hk w
          rw [← isEmpty_ents (EntR_len xm.ents)] at f1
          have hqn : q = none := by cases q <;> simp_all
          subst hqn
          have hrel := r.setMap (c' := c) hr xm xm.ents
          rw [set_self_row hr] at hrel
          refine ⟨.tuple #[], _, F, m, ?_, Ext.refl _ _, by simp [VRel, VL], hrel, same_setObj _ _ _⟩
          simp [-bind_pure_comp, Builtin.delete_, h0, run_underlying hu, getObj_run xm.heap, f1, f2, setObj_run xm.heap]
        · cases ho
      · cases ho
    · cases ho
  · cases ho

end Go.AM
