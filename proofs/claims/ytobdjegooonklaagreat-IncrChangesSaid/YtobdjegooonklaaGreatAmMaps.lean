/- Maps of the abstract machine are those of the real one. Conditions: none. -/
import Derived.Test.YtobdjegooonklaaGreatAmBuilt
import Derived.Lib.UnsafeStr
set_option linter.unusedVariables false
set_option linter.unusedSimpArgs false
namespace Go.AM
open Go

variable {F : Fz} {m : Mp} {fr : FR} {a : Act} {h : Heap} {w : World} {P : Program}

theorem prun_bind {α β : Type} (e : Sem α) (f : α → Sem β) : prun P (e >>= f) = (match prun P e with | some a => prun P (f a) | none => none) := by
  show prun P (e.bind f) = _
  induction e with
  | pure a => simp [Sem.bind, prun]
  | program k ih => simp only [Sem.bind, prun]; exact ih P
  | mark mk k ih => simp only [Sem.bind, prun]; exact ih
  | choose q k ih =>
    simp only [Sem.bind, prun]
    cases q.forced with
    | false => simp
    | true => simpa using ih 0
  | _ => simp [Sem.bind, prun]

theorem prun_pure {α : Type} (a : α) : prun P (pure a : Sem α) = some a := rfl

/-! ### Finding a key: the values make no difference -/
theorem findNow_keys {kd : TypeDesc} {k : Value} : ∀ (es es' : List MapEntry) (i : Nat), es.map (·.key) = es'.map (·.key) →
    (Instr.findNow kd k es i = none ↔ Instr.findNow kd k es' i = none) ∧
    (∀ r, Instr.findNow kd k es i = some r → ∃ r', Instr.findNow kd k es' i = some r' ∧ r.map (·.1) = r'.map (·.1) ∧ (∀ j v, r' = some (j, v) → i ≤ j ∧ ∃ e, es'[j - i]? = some e ∧ e.val = v))
  | [], es', i, hk => by
    have : es' = [] := by simpa using hk.symm
    subst this
    simp [Instr.findNow]
  | e :: es, es', i, hk => by
    cases es' with
    | nil => simp at hk
    | cons e' es' =>
      simp only [List.map_cons, List.cons.injEq] at hk
      obtain ⟨h1, h2⟩ := findNow_keys es es' (i + 1) hk.2 (kd := kd) (k := k)
      simp only [Instr.findNow, hk.1]
      cases Instr.sameNow kd k e'.key with
      | none => simp
      | some b =>
        cases b with
        | true =>
          simp only [reduceCtorEq, Option.some.injEq, true_and]
          intro r hr
          subst hr
          exact ⟨_, rfl, rfl, fun j v hj => by injection hj with hj; injection hj with hj1 hj2; subst hj1; subst hj2; exact ⟨Nat.le_refl _, e', by simp, rfl⟩⟩
        | false =>
          refine ⟨h1, fun r hr => ?_⟩
          obtain ⟨r', r1, r2, r3⟩ := h2 r hr
          refine ⟨r', r1, r2, fun j v hj => ?_⟩
          obtain ⟨g1, e0, g2, g3⟩ := r3 j v hj
          refine ⟨by omega, e0, ?_, g3⟩
          rw [show j - i = (j - (i + 1)) + 1 by omega]
          simpa using g2

theorem findAsking_keys {kt : TypeId} {k : Value} : ∀ (es es' : List MapEntry) (i : Nat), es.map (·.key) = es'.map (·.key) → ∀ r, prun P (Instr.findAsking kt k es i) = some r →
    ∃ r', prun P (Instr.findAsking kt k es' i) = some r' ∧ r.map (·.1) = r'.map (·.1) ∧ (∀ j v, r' = some (j, v) → i ≤ j ∧ ∃ e, es'[j - i]? = some e ∧ e.val = v)
  | [], es', i, hk, r, hr => by
    have : es' = [] := by simpa using hk.symm
    subst this
    simp only [Instr.findAsking, prun_pure, Option.some.injEq] at hr
    subst hr
    exact ⟨none, rfl, rfl, by simp⟩
  | e :: es, es', i, hk, r, hr => by
    cases es' with
    | nil => simp at hk
    | cons e' es' =>
      simp only [List.map_cons, List.cons.injEq] at hk
      simp only [Instr.findAsking, prun_bind, hk.1] at hr ⊢
      cases hq : prun P (Op.equal kt k e'.key) with
      | none => simp [hq] at hr
      | some b =>
        simp only [hq] at hr ⊢
        cases b with
        | true =>
          simp only [if_true, prun_pure, Option.some.injEq] at hr ⊢
          subst hr
          exact ⟨_, rfl, rfl, fun j v hj => by injection hj with hj; injection hj with hj1 hj2; subst hj1; subst hj2; exact ⟨Nat.le_refl _, e', by simp, rfl⟩⟩
        | false =>
          simp only [Bool.false_eq_true, if_false] at hr ⊢
          obtain ⟨r', r1, r2, r3⟩ := findAsking_keys es es' (i + 1) hk.2 r hr
          refine ⟨r', r1, r2, fun j v hj => ?_⟩
          obtain ⟨g1, e0, g2, g3⟩ := r3 j v hj
          refine ⟨by omega, e0, ?_, g3⟩
          rw [show j - i = (j - (i + 1)) + 1 by omega]
          simpa using g2

theorem prun_underlying {t : TypeId} {d : TypeDesc} (hu : P.underlying t = some d) : prun P (underlying t) = some d := by
  unfold underlying
  rw [prun_bind]
  show prun P (match P.underlying t with | some d => pure d | none => stuck "no such type" : Sem TypeDesc) = some d
  rw [hu]
  rfl

theorem findKey_keys {kt : TypeId} {k : Value} {es es' : List MapEntry} (hk : es.map (·.key) = es'.map (·.key)) {r : Option (Nat × Value)} (hr : prun P (Instr.findKey kt k es) = some r) :
    ∃ r', prun P (Instr.findKey kt k es') = some r' ∧ r.map (·.1) = r'.map (·.1) ∧ (∀ j v, r' = some (j, v) → ∃ e, es'[j]? = some e ∧ e.val = v) := by
  unfold Instr.findKey at hr ⊢
  simp only [prun_bind] at hr ⊢
  cases hu : prun P (underlying kt) with
  | none => simp [hu] at hr
  | some d =>
    simp only [hu] at hr ⊢
    obtain ⟨f1, f2⟩ := findNow_keys (kd := d) (k := k) es es' 0 hk
    cases hn : Instr.findNow d k es 0 with
    | some q =>
      rw [hn] at hr
      simp only [prun_pure, Option.some.injEq] at hr
      subst hr
      obtain ⟨r', r1, r2, r3⟩ := f2 q hn
      rw [r1]
      exact ⟨r', rfl, r2, fun j v hj => by simpa using (r3 j v hj).2⟩
    | none =>
      rw [hn] at hr
      rw [f1.1 hn]
      obtain ⟨r', r1, r2, r3⟩ := findAsking_keys es es' 0 hk r hr
      exact ⟨r', r1, r2, fun j v hj => by simpa using (r3 j v hj).2⟩

theorem keysV_rel : ∀ {es : List (AV × AV × Nat)} {vs ents : List MapEntry}, keysV es = some vs → EntR F m es ents → vs.map (·.key) = ents.map (·.key) ∧ ents.length = es.length
  | [], vs, ents, hk, he => by
    simp only [EntR] at he
    simp only [keysV, Option.some.injEq] at hk
    subst hk; subst he
    exact ⟨rfl, rfl⟩
  | (k, x, b) :: l, vs, ents, hk, he => by
    simp only [EntR] at he
    obtain ⟨e, r, h1, h2, h3, h4, rfl⟩ := he
    simp only [keysV] at hk
    cases hx : toV k with
    | none => simp [hx] at hk
    | some v =>
      cases hl : keysV l with
      | none => simp [hx, hl] at hk
      | some l' =>
        simp only [hx, hl, Option.some.injEq] at hk
        subst hk
        obtain ⟨g1, g2⟩ := keysV_rel hl h4
        exact ⟨by simp [g1, toV_rel k v hx _ h1], by simp [g2]⟩

/-- Where a key stands. -/
theorem findE_run {kt : TypeId} {em : Bool} {es : List (AV × AV × Nat)} {key : AV} {kv : Value} {ents : Array MapEntry} {q : Option Nat} (hf : findE P kt em es key = some q) (he : EntR F m es ents.toList) (hk : VRel F m key kv) (w : World) :
    toV key = some kv ∧ (Instr.checkKey em 10000 kt kv).run P w = .ok () w ∧ ∃ r, (Instr.findKey kt kv ents.toList).run P w = .ok r w ∧ r.map (·.1) = q ∧ (∀ j v, r = some (j, v) → ∃ e, ents[j]? = some e ∧ e.val = v) := by
  unfold findE at hf
  split at hf
  · rename_i vs k hv ht
    have hkv := toV_rel key k ht kv hk
    subst hkv
    obtain ⟨g1, g2⟩ := keysV_rel hv he
    rw [prun_bind] at hf
    cases hc : prun P (Instr.checkKey em 10000 kt kv) with
    | none => simp [hc] at hf
    | some u =>
      simp only [hc] at hf
      cases hfk : prun P (Instr.findKey kt kv vs) with
      | none => simp [hfk] at hf
      | some r =>
        obtain ⟨r', r1, r2, r3⟩ := findKey_keys g1 hfk
        refine ⟨ht, prun_run _ _ hc w, r', prun_run _ _ r1 w, ?_, fun j v hj => by obtain ⟨e, e1, e2⟩ := r3 j v hj; exact ⟨e, by simpa using e1, e2⟩⟩
        rw [← r2]
        cases r with
        | none => simp [hfk] at hf; simp [hf]
        | some p => obtain ⟨j, v⟩ := p; simp [hfk] at hf; simp [hf]
  · cases hf

theorem isEmpty_ents {es : List (AV × AV × Nat)} {ents : Array MapEntry} (h : ents.toList.length = es.length) : ents.isEmpty = es.isEmpty := by
  cases es with
  | nil => simp at h; simp [Array.isEmpty, h]
  | cons e es => simp at h; simp [Array.isEmpty, h]

theorem EntR_get : ∀ {es : List (AV × AV × Nat)} {ents : List MapEntry} {i : Nat} {k x : AV} {b : Nat}, EntR F m es ents → es[i]? = some (k, x, b) → ∃ e, ents[i]? = some e ∧ VRel F m k e.key ∧ VRel F m x e.val ∧ e.born = b
  | [], ents, i, k, x, b, _, hi => by simp at hi
  | (k', x', b') :: l, ents, i, k, x, b, he, hi => by
    simp only [EntR] at he
    obtain ⟨e, r, h1, h2, h3, h4, rfl⟩ := he
    cases i with
    | zero =>
      simp at hi
      obtain ⟨rfl, rfl, rfl⟩ := hi
      exact ⟨e, by simp, h1, h2, h3⟩
    | succ i =>
      simp at hi
      obtain ⟨e', g1, g2⟩ := EntR_get h4 hi
      exact ⟨e', by simpa using g1, g2⟩

theorem EntR_set : ∀ {es : List (AV × AV × Nat)} {ents : List MapEntry} {i : Nat} {k x : AV} {b : Nat} {e : MapEntry}, EntR F m es ents → i < es.length → VRel F m k e.key → VRel F m x e.val → e.born = b → EntR F m (es.set i (k, x, b)) (ents.set i e)
  | [], ents, i, k, x, b, e, _, hi, _, _, _ => by simp at hi
  | (k', x', b') :: l, ents, i, k, x, b, e, he, hi, hk, hx, hb => by
    simp only [EntR] at he
    obtain ⟨e', r, h1, h2, h3, h4, rfl⟩ := he
    cases i with
    | zero => simp only [List.set_cons_zero, EntR]; exact ⟨e, r, hk, hx, hb, h4, rfl⟩
    | succ i => simp only [List.set_cons_succ, EntR]; exact ⟨e', _, h1, h2, h3, EntR_set h4 (by simpa using hi) hk hx hb, rfl⟩

theorem EntR_append : ∀ {es : List (AV × AV × Nat)} {ents : List MapEntry} {k x : AV} {b : Nat} {e : MapEntry}, EntR F m es ents → VRel F m k e.key → VRel F m x e.val → e.born = b → EntR F m (es ++ [(k, x, b)]) (ents ++ [e])
  | [], ents, k, x, b, e, he, hk, hx, hb => by
    simp only [EntR] at he
    subst he
    simp only [List.nil_append, EntR]
    exact ⟨e, [], hk, hx, hb, rfl, rfl⟩
  | (k', x', b') :: l, ents, k, x, b, e, he, hk, hx, hb => by
    simp only [EntR] at he
    obtain ⟨e', r, h1, h2, h3, h4, rfl⟩ := he
    simp only [List.cons_append, EntR]
    exact ⟨e', _, h1, h2, h3, EntR_append h4 hk hx hb, rfl⟩

theorem EntR_erase : ∀ {es : List (AV × AV × Nat)} {ents : List MapEntry} {i : Nat}, EntR F m es ents → EntR F m (es.eraseIdx i) (ents.eraseIdx i)
  | [], ents, i, he => by
    simp only [EntR] at he
    subst he
    simp [EntR]
  | (k', x', b') :: l, ents, i, he => by
    simp only [EntR] at he
    obtain ⟨e', r, h1, h2, h3, h4, rfl⟩ := he
    cases i with
    | zero => simpa using h4
    | succ i => simp only [List.eraseIdx_cons_succ, EntR]; exact ⟨e', _, h1, h2, h3, EntR_erase h4, rfl⟩

theorem EntR_len : ∀ {es : List (AV × AV × Nat)} {ents : List MapEntry}, EntR F m es ents → ents.length = es.length
  | [], ents, he => by simp only [EntR] at he; simp [he]
  | (k', x', b') :: l, ents, he => by
    simp only [EntR] at he
    obtain ⟨e', r, h1, h2, h3, h4, rfl⟩ := he
    simp [EntR_len h4]

/-! ### A map written -/
def setObjW (w : World) (g : Nat) (o : Obj) : World := { w with heap := w.heap.setIfInBounds g o }

theorem setObj_run {g : Nat} {es : Array MapEntry} {c : Nat} (hg : w.heap[g]? = some (.map es c)) (o : Obj) : (setObj g o).run P w = .ok () (setObjW w g o) := by
  simp [setObj, Sem.run, hg, setObjW]

theorem getObj_run {g : Nat} {es : Array MapEntry} {c : Nat} (hg : w.heap[g]? = some (.map es c)) : (getObj g).run P w = .ok (.map es c) w := by
  simp [getObj, Sem.run, hg]

theorem Rel.setMap (r : Rel F m h w) {id g c c' : Nat} {es es' : List (AV × AV × Nat)} {ents ents' : Array MapEntry} (hi : h[id]? = some (.map es c)) (x : MapR F m w id es c g ents) (he : EntR F m es' ents'.toList) :
    Rel F m (h.set id (.map es' c')) (setObjW w g (.map ents' c')) := by
  have hgs := (Array.getElem?_eq_some_iff.1 x.heap).1
  have hother : ∀ b, b ≠ g → (setObjW w g (.map ents' c')).heap[b]? = w.heap[b]? := fun b hb => by
    simp only [setObjW]
    rw [Array.getElem?_setIfInBounds_ne (fun e => hb e.symm)]
  have hself : (setObjW w g (.map ents' c')).heap[g]? = some (.map ents' c') := by
    simp only [setObjW]
    rw [Array.getElem?_setIfInBounds_self_of_lt hgs]
  refine ⟨fun b o hb => ?_, fun id1 k1 gen1 els1 ex1 h1 => ?_, fun id1 es1 c1 h1 => ?_, fun i gn hn => by simpa using r.fresh i gn hn, fun i hn => by simpa using r.freshM i hn, ?_, ?_⟩
  · rw [hother b (fun hbg => by subst hbg; rw [x.own] at hb; cases hb)]
    exact r.fz b o hb
  · rcases getElem?_set_row h1 with ⟨rfl, h2⟩ | ⟨hne, h2⟩
    · cases h2
    · obtain ⟨g1, C1, e1, cur1, y⟩ := r.row _ _ _ _ _ h2
      have hg : g1 ≠ g := fun hg => by subst hg; have := x.heap; rw [y.heap] at this; cases this
      exact ⟨g1, C1, e1, cur1, ⟨y.mp, y.pos, by rw [hother g1 hg]; exact y.heap, y.own, y.size, y.len, y.exact, y.ty, y.most, y.all, y.cells, y.gens⟩⟩
  · rcases getElem?_set_row h1 with ⟨rfl, h2⟩ | ⟨hne, h2⟩
    · injection h2 with a1 a2
      subst a1; subst a2
      exact ⟨g, ents', ⟨x.mp, hself, x.own, he⟩⟩
    · obtain ⟨g1, ents1, y⟩ := r.map _ _ _ h2
      have hg : g1 ≠ g := fun hg => hne (by subst hg; exact r.injM _ _ _ _ _ _ _ h2 hi y.mp x.mp)
      exact ⟨g1, ents1, ⟨y.mp, by rw [hother g1 hg]; exact y.heap, y.own, y.ents⟩⟩
  · intro id1 id2 k1 gen1 els1 ex1 k2 gen2 els2 ex2 gg C1 C2 r1 r2 h1 h2 h3 h4
    rcases getElem?_set_row h1 with ⟨rfl, e1⟩ | ⟨hne1, e1⟩
    · cases e1
    · rcases getElem?_set_row h2 with ⟨rfl, e2⟩ | ⟨hne2, e2⟩
      · cases e2
      · exact r.inj _ _ _ _ _ _ _ _ _ _ _ _ _ _ _ e1 e2 h3 h4
  · intro id1 id2 es1 c1 es2 c2 gg h1 h2 h3 h4
    rcases getElem?_set_row h1 with ⟨rfl, e1⟩ | ⟨hne1, e1⟩ <;> rcases getElem?_set_row h2 with ⟨rfl, e2⟩ | ⟨hne2, e2⟩
    · rfl
    · exact r.injM _ _ _ _ _ _ _ hi e2 h3 h4
    · exact r.injM _ _ _ _ _ _ _ e1 hi h3 h4
    · exact r.injM _ _ _ _ _ _ _ e1 e2 h3 h4

theorem same_setObj (w : World) (g : Nat) (o : Obj) : Same w (setObjW w g o) := ⟨rfl, rfl, rfl, by simp [setObjW], Nat.le_refl _⟩

/-! ### Lookup, store, len, delete -/
theorem lookupE_run {E : Env} (hE : E.ZerosOK) (r : Rel F m h w) {t : TypeId} {x k y : AV} {xv kv : Value} {ok : Bool} (hx : VRel F m x xv) (hk : VRel F m k kv) (ho : lookupE E h t x k ok = some y) :
    ∃ v, (Instr.lookup t xv kv ok).run E.P w = .ok v w ∧ VRel F m y v := by
  unfold lookupE at ho
  split at ho
  · rename_i kt e hu
    dsimp only at ho
    have fin : ∀ (z : AV) (b : Bool) (v : Value), VRel F m z v → VRel F m (bif ok then .tup [z, .v (.bool b)] else z) (if ok then .tuple #[v, .bool b] else v) := by
      intro z b v hz
      cases ok with
      | false => simpa using hz
      | true =>
        simp only [cond_true, if_true, VRel, VL]
        exact ⟨[v, .bool b], ⟨v, [.bool b], hz, ⟨.bool b, [], by simp [free], rfl, rfl⟩, rfl⟩, rfl⟩
    split at ho
    · rename_i z b hq
      injection ho with ho
      subst ho
      split at hq
      · -- a nil map
        split at hq
        · rename_i z' hf hz
          simp only [Option.some.injEq, Prod.mk.injEq] at hq
          obtain ⟨rfl, rfl⟩ := hq
          simp only [VRel] at hx
          obtain ⟨_, rfl⟩ := hx
          obtain ⟨_, f1, q, f2, f3, _⟩ := findE_run (P := E.P) (ents := #[]) hf (by simp [EntR]) hk w
          have hqn : q = none := by cases q <;> simp_all
          subst hqn
          obtain ⟨v, v1, v2, v3, v4⟩ := zero_run (F := F) (m := m) hE hz w
          refine ⟨_, ?_, fin _ false v v2⟩
          simp at f1 f2
          simp [-bind_pure_comp, Instr.lookup, run_underlying hu, f1, f2, v1]
        · cases hq
      · -- a map
        rename_i id
        split at hq
        · rename_i es c hr
          obtain ⟨g, ents, xm⟩ := r.map _ _ _ hr
          simp only [VRel] at hx
          obtain ⟨g', hg', rfl⟩ := hx
          rw [xm.mp] at hg'
          injection hg' with hg'
          subst hg'
          split at hq
          · rename_i i hf
            split at hq
            · rename_i k0 x0 b0 hes
              simp only [Option.some.injEq, Prod.mk.injEq] at hq
              obtain ⟨rfl, rfl⟩ := hq
              obtain ⟨_, f1, q, f2, f3, f4⟩ := findE_run (P := E.P) hf xm.ents hk w
              cases q with
              | none => simp at f3
              | some p =>
                obtain ⟨j, v⟩ := p
                simp at f3
                subst f3
                obtain ⟨e1, e2, e3⟩ := f4 j v rfl
                obtain ⟨e4, e5, e6, e7, _⟩ := EntR_get xm.ents hes
                rw [Array.getElem?_toList, e2] at e5
                injection e5 with e5
                subst e5
                refine ⟨_, ?_, fin _ true v (by rw [← e3]; exact e7)⟩
                rw [← isEmpty_ents (EntR_len xm.ents)] at f1
                simp [-bind_pure_comp, Instr.lookup, run_underlying hu, getObj_run xm.heap, f1, f2]
            · cases hq
          · rename_i hf
            split at hq
            · rename_i z' hz
              simp only [Option.some.injEq, Prod.mk.injEq] at hq
              obtain ⟨rfl, rfl⟩ := hq
              obtain ⟨_, f1, q, f2, f3, f4⟩ := findE_run (P := E.P) hf xm.ents hk w
              have hqn : q = none := by cases q <;> simp_all
              subst hqn
              obtain ⟨v, v1, v2, v3, v4⟩ := zero_run (F := F) (m := m) hE hz w
              refine ⟨_, ?_, fin _ false v v2⟩
              rw [← isEmpty_ents (EntR_len xm.ents)] at f1
              simp [-bind_pure_comp, Instr.lookup, run_underlying hu, getObj_run xm.heap, f1, f2, v1]
            · cases hq
          · cases hq
        · cases hq
      · cases hq
    · cases ho
  · cases ho

theorem map_row (r : Rel F m h w) {id c : Nat} {mv : Value} {es : List (AV × AV × Nat)} (hm : VRel F m (.map id) mv) (hr : h[id]? = some (.map es c)) : ∃ g ents, MapR F m w id es c g ents ∧ mv = .map (some g) := by
  obtain ⟨g, ents, xm⟩ := r.map _ _ _ hr
  simp only [VRel] at hm
  obtain ⟨g', hg', rfl⟩ := hm
  rw [xm.mp] at hg'
  injection hg' with hg'
  subst hg'
  exact ⟨_, _, xm, rfl⟩

theorem updateE_run {E : Env} (r : Rel F m h w) {t : TypeId} {mp k x : AV} {mv kv xv : Value} {h' : Heap} {id : Nat} (hm : VRel F m mp mv) (hk : VRel F m k kv) (hx : VRel F m x xv) (ho : updateE E h t mp k x = some (h', id)) :
    ∃ w', (Instr.mapUpdate t mv kv xv).run E.P w = .ok () w' ∧ Rel F m h' w' ∧ Same w w' := by
  unfold updateE at ho
  split at ho
  · rename_i kt e id0 hu
    split at ho
    · rename_i es c hr
      obtain ⟨g, ents, xm, rfl⟩ := map_row r hm hr
      split at ho
      · rename_i i hf
        obtain ⟨hkt, f1, q, f2, f3, f4⟩ := findE_run (P := E.P) hf xm.ents hk w
        cases q with
        | none => simp at f3
        | some p =>
          obtain ⟨j, v⟩ := p
          simp at f3
          subst f3
          split at ho
          · rename_i k0 x0 b0 hes
            split at ho
            · rename_i o n h1 h2
              split at ho
              · rename_i kk hks
                simp only [Option.some.injEq, Prod.mk.injEq] at ho
                obtain ⟨rfl, rfl⟩ := ho
                obtain ⟨e4, e5, e6, e7, e8⟩ := EntR_get xm.ents hes
                have hn : n = kv := by rw [hkt] at h2; injection h2 with h2; exact h2.symm
                subst hn
                have ho' : e4.key = o := toV_rel k0 o h1 _ e6
                have hk2 := prun_run _ _ hks w
                have hke : (((ents[j]?).map (·.key)).getD n) = o := by rw [Array.getElem?_toList] at e5; rw [e5]; simp [ho']
                have hkk : kk = o ∨ kk = n := by
                  unfold Instr.keyThatStays at hks
                  split at hks
                  · simp only [prun_pure, Option.some.injEq] at hks; exact .inr hks.symm
                  · rw [show (do let __do_lift ← choose (.extern "map.whichKeyStays" 2); pure (if __do_lift = 0 then n else o) : Sem Value) = (choose (.extern "map.whichKeyStays" 2) >>= fun a => pure (if a = 0 then n else o)) from rfl, prun_bind] at hks
                    simp [choose, prun, Question.forced] at hks
                have hvk : VRel F m k kk := by
                  unfold Instr.keyThatStays at hks
                  split at hks
                  · simp only [prun_pure, Option.some.injEq] at hks; subst hks; exact hk
                  · rw [show (do let __do_lift ← choose (.extern "map.whichKeyStays" 2); pure (if __do_lift = 0 then n else o) : Sem Value) = (choose (.extern "map.whichKeyStays" 2) >>= fun a => pure (if a = 0 then n else o)) from rfl, prun_bind] at hks
                    simp [choose, prun, Question.forced] at hks
                have hjl := lt_of_getElem? hes
                have hmod : (ents.modify j fun e => { e with key := kk, val := xv }).toList = ents.toList.set j { e4 with key := kk, val := xv } := by
                  apply List.ext_getElem?
                  intro q
                  rw [Array.getElem?_toList, Array.getElem?_modify, List.getElem?_set]
                  by_cases hq : j = q
                  · subst hq
                    rw [Array.getElem?_toList] at e5
                    have := (Array.getElem?_eq_some_iff.1 e5).1
                    rw [e5]
                    simp [this]
                  · simp [hq]
                refine ⟨_, ?_, r.setMap (c' := c) hr xm (ents' := ents.modify j fun e => { e with key := kk, val := xv }) (by rw [hmod]; exact EntR_set xm.ents hjl hvk hx e8), same_setObj _ _ _⟩
                simp only [Instr.mapUpdate, Sem.run_bind, run_underlying hu, Result.andThen_ok, getObj_run xm.heap, f1, f2, hke, hk2, setObj_run xm.heap]
              · cases ho
            · cases ho
          · cases ho
      · rename_i hf
        simp only [Option.some.injEq, Prod.mk.injEq] at ho
        obtain ⟨rfl, rfl⟩ := ho
        obtain ⟨hkt, f1, q, f2, f3, f4⟩ := findE_run (P := E.P) hf xm.ents hk w
        have hqn : q = none := by cases q <;> simp_all
        subst hqn
        refine ⟨_, ?_, r.setMap (c' := c + 1) hr xm (ents' := ents.push { key := kv, val := xv, born := c }) (by rw [Array.toList_push]; exact EntR_append xm.ents hk hx rfl), same_setObj _ _ _⟩
        simp only [Instr.mapUpdate, Sem.run_bind, run_underlying hu, Result.andThen_ok, getObj_run xm.heap, f1, f2, setObj_run xm.heap]
      · cases ho
    · cases ho
  · cases ho

theorem deleteE_sound {E : Env} (r : Rel F m h w) {ts : Array TypeId} {mp k y : AV} {mv kv : Value} {h' : Heap} {sto : Option (Nat × Bool)} {cl : Cl} (hm : VRel F m mp mv) (hk : VRel F m k kv) (ho : deleteE E h ts mp k = some (y, h', sto, cl)) (ty : TypeId) :
    GoodV E.P F m w y h' (Builtin.delete_ ts ty #[mv, kv]) := by
  unfold deleteE at ho
  split at ho
  · rename_i t h0
    split at ho
    · rename_i kt e id hu
      split at ho
      · rename_i es c hr
        obtain ⟨g, ents, xm, rfl⟩ := map_row r hm hr
        split at ho
        · rename_i i hf
          simp only [Option.some.injEq, Prod.mk.injEq] at ho
          obtain ⟨rfl, rfl, rfl, rfl⟩ := ho
          obtain ⟨hkt, f1, q, f2, f3, f4⟩ := findE_run (P := E.P) hf xm.ents hk w
          rw [← isEmpty_ents (EntR_len xm.ents)] at f1
          cases q with
          | none => simp at f3
          | some p =>
            obtain ⟨j, v⟩ := p
            simp at f3
            subst f3
            refine ⟨.tuple #[], _, F, m, ?_, Ext.refl _ _, by simp [VRel, VL], r.setMap (c' := c) hr xm (ents' := ents.eraseIdxIfInBounds j) (by rw [Array.toList_eraseIdxIfInBounds]; exact EntR_erase xm.ents), same_setObj _ _ _⟩
            simp only [Builtin.delete_, h0, Sem.run_bind, run_underlying hu, Result.andThen_ok, getObj_run xm.heap, f1, f2, setObj_run xm.heap, Sem.run_pure]
            simp [-bind_pure_comp, run_underlying hu, getObj_run xm.heap, f1, f2, setObj_run xm.heap]
        · rename_i hf
          simp only [Option.some.injEq, Prod.mk.injEq] at ho
          obtain ⟨rfl, rfl, rfl, rfl⟩ := ho
          obtain ⟨hkt, f1, q, f2, f3, f4⟩ := findE_run (P := E.P) hf xm.ents hk w
          rw [← isEmpty_ents (EntR_len xm.ents)] at f1
          have hqn : q = none := by cases q <;> simp_all
          subst hqn
          have hrel := r.setMap (c' := c) hr xm xm.ents
          rw [set_self_row hr] at hrel
          refine ⟨.tuple #[], _, F, m, ?_, Ext.refl _ _, by simp [VRel, VL], hrel, same_setObj _ _ _⟩
          simp [-bind_pure_comp, Builtin.delete_, h0, run_underlying hu, getObj_run xm.heap, f1, f2, setObj_run xm.heap]
        · cases ho
      · cases ho
    · cases ho
  · cases ho

end Go.AM

set_option linter.unusedVariables false
set_option linter.unusedSimpArgs false
namespace Go.AM
open Go

variable {F : Fz} {m : Mp} {fr : FR} {a : Act} {h : Heap} {w : World} {P : Program}

/-- A row that is told no more. -/
theorem Rel.kill (r : Rel F m h w) {id : Nat} {w' : World} {k gen : Nat} {els : List AV} {ex : Tag} {g C : Nat} {e : TypeId} {cur : Array Value} (hi : h[id]? = some (.row k gen els ex)) (x : RowR F m w id k gen els ex g C e cur)
    (hw : ∀ b, b ≠ g → w'.heap[b]? = w.heap[b]?) : Rel F m (h.set id .dead) w' := by
  refine ⟨fun b o hb => ?_, fun id1 k1 gen1 els1 ex1 h1 => ?_, fun id1 es c h1 => ?_, fun i gn hn => by simpa using r.fresh i gn hn, fun i hn => by simpa using r.freshM i hn, ?_, ?_⟩
  · rw [hw b (fun hbg => by subst hbg; rw [x.own] at hb; cases hb)]
    exact r.fz b o hb
  · rcases getElem?_set_row h1 with ⟨rfl, h2⟩ | ⟨hne, h2⟩
    · cases h2
    · obtain ⟨g1, C1, e1, cur1, y⟩ := r.row _ _ _ _ _ h2
      have hg : g1 ≠ g := fun hg => hne (by subst hg; exact r.inj id1 id _ _ _ _ _ _ _ _ _ _ _ _ _ h2 hi y.mp x.mp)
      exact ⟨g1, C1, e1, cur1, ⟨y.mp, y.pos, by rw [hw g1 hg]; exact y.heap, y.own, y.size, y.len, y.exact, y.ty, y.most, y.all, y.cells, y.gens⟩⟩
  · rcases getElem?_set_row h1 with ⟨rfl, h2⟩ | ⟨hne, h2⟩
    · cases h2
    · obtain ⟨g1, ents, y⟩ := r.map _ _ _ h2
      have hg : g1 ≠ g := fun hg => by subst hg; have := x.heap; rw [y.heap] at this; cases this
      exact ⟨g1, ents, ⟨y.mp, by rw [hw g1 hg]; exact y.heap, y.own, y.ents⟩⟩
  · intro id1 id2 k1 gen1 els1 ex1 k2 gen2 els2 ex2 gg C1 C2 r1 r2 h1 h2 h3 h4
    rcases getElem?_set_row h1 with ⟨rfl, e1⟩ | ⟨hne1, e1⟩
    · cases e1
    · rcases getElem?_set_row h2 with ⟨rfl, e2⟩ | ⟨hne2, e2⟩
      · cases e2
      · exact r.inj _ _ _ _ _ _ _ _ _ _ _ _ _ _ _ e1 e2 h3 h4
  · intro id1 id2 es c es' c' g1 h1 h2 h3 h4
    rcases getElem?_set_row h1 with ⟨rfl, e1⟩ | ⟨hne1, e1⟩
    · cases e1
    · rcases getElem?_set_row h2 with ⟨rfl, e2⟩ | ⟨hne2, e2⟩
      · cases e2
      · exact r.injM _ _ _ _ _ _ _ e1 e2 h3 h4

theorem freeze_other (w : World) (a : Addr) (n b : Nat) (hb : b ≠ a.block) : (w.freeze a n).heap[b]? = w.heap[b]? := by
  unfold World.freeze
  split
  · rfl
  · simp [Array.getElem?_modify, Ne.symm hb]

theorem same_freeze (w : World) (a : Addr) (n : Nat) : Same w (w.freeze a n) := by
  unfold World.freeze
  split
  · exact Same.refl _
  · exact ⟨rfl, rfl, rfl, by simp, Nat.le_refl _⟩

theorem sliceDataE_sound (r : Rel F m h w) {x y : AV} {xv : Value} {h' : Heap} {s : Option (Nat × Bool)} {c : Cl} (ho : sliceDataE h x = some (y, h', s, c)) (hx : VRel F m x xv) (ts : Array TypeId) (ty : TypeId) :
    GoodV P F m w y h' (Builtin.unsafeSliceData_ ts ty #[xv]) := by
  unfold sliceDataE at ho
  split at ho
  · simp only [Option.some.injEq, Prod.mk.injEq] at ho
    obtain ⟨rfl, rfl, rfl, rfl⟩ := ho
    simp only [VRel] at hx
    obtain ⟨_, rfl⟩ := hx
    exact GoodV.val r (Lib.run_unsafeSliceData_nil w ts ty 0 0) (by simp [VRel, free])
  · rename_i id gen off len
    split at ho
    · rename_i k g els ex hr
      cases hb : (Nat.beq g gen && Nat.blt off els.length) with
      | false => simp [hb] at ho
      | true =>
        simp only [hb, cond_true, Option.some.injEq, Prod.mk.injEq] at ho
        obtain ⟨rfl, rfl, rfl, rfl⟩ := ho
        rw [Bool.and_eq_true] at hb
        have e1 := Nat.eq_of_beq_eq_true hb.1
        subst e1
        have hoff : off < els.length := by simpa [Nat.blt_eq] using hb.2
        obtain ⟨gb, C, e, cur, ad, xr, g1, g2, g3, g4, rfl⟩ := sl_row r hx hr
        have hl := xr.len
        refine GoodV.val r (Lib.run_unsafeSliceData_row w ts ty ad len (C - off) (by omega)) ?_
        simp only [VRel]
        refine ⟨gb, C, k, xr.mp, ?_⟩
        have h4 := g4 (by omega)
        obtain ⟨bl, o, sp⟩ := ad
        simp only at g2 g3 h4
        subst g2; subst g3; subst h4
        rfl
    · cases ho
  · cases ho

theorem bytesOK_rel : ∀ {l : List AV} {bs : List UInt8} {cs : List Value}, bytesOK l = true → bytesL l = some bs → CL F m l cs → cs = bs.map (fun b => Value.int .u8 b.toNat) ∧ bs.length = l.length
  | [], bs, cs, _, hb, hc => by
    simp only [CL] at hc
    simp only [bytesL, Option.some.injEq] at hb
    subst hb; subst hc
    exact ⟨rfl, rfl⟩
  | x :: l, bs, cs, ho, hb, hc => by
    simp only [CL] at hc
    obtain ⟨y, ds, h1, h2, h3, rfl⟩ := hc
    unfold bytesOK at ho
    split at ho
    · rename_i heq
      cases heq
    · rename_i n l' heq
      injection heq with e1 e2
      subst e1; subst e2
      simp only [Bool.and_eq_true, decide_eq_true_eq] at ho
      obtain ⟨⟨n0, n1⟩, ho⟩ := ho
      simp only [bytesL, byteOf?] at hb
      cases hl : bytesL l with
      | none => simp [hl] at hb
      | some bs' =>
        simp only [hl, Option.some.injEq] at hb
        subst hb
        obtain ⟨g1, g2⟩ := bytesOK_rel ho hl h3
        simp only [VRel] at h1
        obtain ⟨_, rfl⟩ := h1
        refine ⟨?_, by simp [g2]⟩
        simp only [Value.cells, List.map_cons, g1, List.cons_append, List.nil_append, List.cons.injEq, and_true, Value.int.injEq, true_and]
        have : n.toNat < 256 := by omega
        simp only [UInt8.toNat_ofNat']
        omega
    · cases ho

theorem unsafeStringE_sound (r : Rel F m h w) {ts : Array TypeId} {x n y : AV} {xv nv : Value} {h' : Heap} {s : Option (Nat × Bool)} {c : Cl} (ho : unsafeStringE P h ts x n = some (y, h', s, c)) (hx : VRel F m x xv) (hn : VRel F m n nv) (ty : TypeId) :
    GoodV P F m w y h' (Builtin.unsafeString_ ts ty #[xv, nv]) := by
  unfold unsafeStringE at ho
  split at ho
  · rename_i pt it n h0
    have hts : ts = #[pt, it] := by rw [← Array.toArray_toList (xs := ts), h0]
    subst hts
    simp only [VRel] at hn
    obtain ⟨_, rfl⟩ := hn
    by_cases hz : n = 0
    · subst hz
      simp only [decide_true, cond_true] at ho
      split at ho
      · simp only [Option.some.injEq, Prod.mk.injEq] at ho
        obtain ⟨rfl, rfl, rfl, rfl⟩ := ho
        simp only [VRel] at hx
        obtain ⟨_, rfl⟩ := hx
        exact GoodV.val r (Lib.run_unsafeString_none w pt it ty _) (by simp [VRel, free])
      · simp only [Option.some.injEq, Prod.mk.injEq] at ho
        obtain ⟨rfl, rfl, rfl, rfl⟩ := ho
        simp only [VRel] at hx
        obtain ⟨g, C, k, _, rfl⟩ := hx
        exact GoodV.val r (Lib.run_unsafeString_none w pt it ty _) (by simp [VRel, free])
      · cases ho
    · simp only [hz, decide_false, cond_false] at ho
      split at ho
      · rename_i id gen u hu
        split at ho
        · rename_i k g els ex hr
          split at ho
          · rename_i bs hbs
            cases hc : (Nat.beq g gen && Nat.beq k 1 && decide (0 ≤ n) && Nat.ble n.toNat els.length && Nat.beq (P.cellsOf ex.ty) 1 && Nat.beq u ex.ty && bytesOK (els.take n.toNat)) with
            | false => simp [hc] at ho
            | true =>
              simp only [hc, cond_true, Option.some.injEq, Prod.mk.injEq] at ho
              obtain ⟨rfl, rfl, rfl, rfl⟩ := ho
              simp only [Bool.and_eq_true, decide_eq_true_eq] at hc
              obtain ⟨⟨⟨⟨⟨⟨c1, c2⟩, c3⟩, c4⟩, c5⟩, c6⟩, c7⟩ := hc
              have e1 := Nat.eq_of_beq_eq_true c1
              have e2 := Nat.eq_of_beq_eq_true c2
              have e4 := Nat.le_of_ble_eq_true c4
              have e5 := Nat.eq_of_beq_eq_true c5
              have e6 := Nat.eq_of_beq_eq_true c6
              subst e1; subst e2; subst e6
              simp only [VRel] at hx
              obtain ⟨gb, C, k1, h1, rfl⟩ := hx
              obtain ⟨g2, C2, e2, cur, xr⟩ := r.row _ _ _ _ _ hr
              have hm := xr.mp
              rw [h1] at hm
              injection hm with hm
              injection hm with hm1 hm2
              injection hm2 with hm2 hm3
              subst hm1; subst hm2; subst hm3
              have hty := xr.ty
              subst hty
              have hcl := CL_take xr.cells xr.all n.toNat
              obtain ⟨q1, q2⟩ := bytesOK_rel c7 hbs hcl
              have hbl : bs.length = n.toNat := by rw [q2]; simp; omega
              have hlen := xr.len
              have hsz := xr.size
              have hrun := Lib.run_unsafeString_row w pt it ty ex.ty hu e5 gb cur.size (by simp [World.shape?, xr.heap]) bs (by intro e0; rw [e0] at hbl; simp at hbl; omega) (by omega) (by have := xr.most; simp only [maxLen] at this; omega) (fun j v hj => by
                have hj2 : (bs.map (fun b => Value.int .u8 b.toNat))[j]? = some (.int .u8 v.toNat) := by simp [hj]
                rw [← q1] at hj2
                rw [List.take_take] at hj2
                simp only [List.getElem?_take] at hj2
                split at hj2
                · rw [add_any rfl]
                  simp only [World.cell?, xr.heap, Nat.zero_add]
                  simpa using hj2
                · cases hj2)
              have hnn : (bs.length : Int) = n := by rw [hbl]; omega
              rw [hnn] at hrun
              simp only [Nat.zero_mul, Nat.add_zero]
              exact ⟨.string ⟨bs.toArray⟩, w.freeze ⟨gb, 0, none⟩ bs.length, F, m, hrun, Ext.refl _ _, by simp [VRel, free], r.kill hr xr fun b hb => freeze_other w _ _ b hb, same_freeze _ _ _⟩
          · cases ho
        · cases ho
      · cases ho
  · cases ho

end Go.AM

set_option linter.unusedVariables false
set_option linter.unusedSimpArgs false
namespace Go.AM
open Go

variable {F : Fz} {m : Mp} {fr : FR} {a : Act} {h : Heap} {w : World} {P : Program}

theorem GoodV.good {y : AV} {h' : Heap} {s : Sem Value} (g : GoodV P F m w y h' s) : Good P F m w y h' (do pure (.value (← s))) := by
  obtain ⟨v, w', F', m', h1, h2, h3, h4, h5⟩ := g
  exact ⟨v, .value v, w', F', m', by simp [h1], .inl rfl, h2, h3, h4, h5⟩

theorem VL_len : ∀ {l : List AV} {vs : List Value}, VL F m l vs → vs.length = l.length
  | [], vs, hv => by simp only [VL] at hv; simp [hv]
  | x :: l, vs, hv => by
    simp only [VL] at hv
    obtain ⟨y, ds, _, h2, rfl⟩ := hv
    simp [VL_len h2]

theorem toVL_rel : ∀ {l : List AV} {vs ys : List Value}, toVL l = some vs → VL F m l ys → ys = vs
  | [], vs, ys, ht, hv => by
    simp only [VL] at hv
    simp only [toVL, Option.some.injEq] at ht
    rw [hv, ← ht]
  | x :: l, vs, ys, ht, hv => by
    simp only [VL] at hv
    obtain ⟨y, ds, h1, h2, rfl⟩ := hv
    simp only [toVL] at ht
    cases hx : toV x with
    | none => simp [hx] at ht
    | some v =>
      cases hl : toVL l with
      | none => simp [hx, hl] at ht
      | some l' =>
        simp only [hx, hl, Option.some.injEq] at ht
        rw [← ht, toV_rel x v hx y h1, toVL_rel hl h2]

theorem lenE_sound (r : Rel F m h w) {ts : Array TypeId} {x y : AV} {xv : Value} {h' : Heap} {sto : Option (Nat × Bool)} {cl : Cl} (hx : VRel F m x xv) (ho : lenE P h ts x = some (y, h', sto, cl)) (ty : TypeId) :
    GoodV P F m w y h' (Builtin.len_ ts ty #[xv]) := by
  unfold lenE at ho
  split at ho
  · rename_i t h0
    split at ho
    · rename_i s hu
      simp only [Option.some.injEq, Prod.mk.injEq] at ho
      obtain ⟨rfl, rfl, rfl, rfl⟩ := ho
      simp only [VRel] at hx
      obtain ⟨_, rfl⟩ := hx
      exact GoodV.val r (by simp [-bind_pure_comp, Builtin.len_, h0, run_underlying hu]) (VRel_vInt _)
    · rename_i e hu
      split at ho
      · rename_i n hn
        simp only [Option.some.injEq, Prod.mk.injEq] at ho
        obtain ⟨rfl, rfl, rfl, rfl⟩ := ho
        obtain ⟨ad, cap, rfl⟩ := sliceLen_rel hn hx
        exact GoodV.val r (by simp [-bind_pure_comp, Builtin.len_, h0, run_underlying hu]) (VRel_vInt _)
      · cases ho
    · rename_i n e l hu
      simp only [Option.some.injEq, Prod.mk.injEq] at ho
      obtain ⟨rfl, rfl, rfl, rfl⟩ := ho
      exact GoodV.val r (by simp [-bind_pure_comp, Builtin.len_, h0, run_underlying hu]) (VRel_vInt _)
    · rename_i n e hu
      simp only [Option.some.injEq, Prod.mk.injEq] at ho
      obtain ⟨rfl, rfl, rfl, rfl⟩ := ho
      exact GoodV.val r (by simp [-bind_pure_comp, Builtin.len_, h0, run_underlying hu]) (VRel_vInt _)
    · rename_i kt e hu
      simp only [Option.some.injEq, Prod.mk.injEq] at ho
      obtain ⟨rfl, rfl, rfl, rfl⟩ := ho
      simp only [VRel] at hx
      obtain ⟨_, rfl⟩ := hx
      exact GoodV.val r (v := goInt (0 : Nat)) (by simp [-bind_pure_comp, Builtin.len_, h0, run_underlying hu]) (VRel_vInt _)
    · rename_i kt e id hu
      split at ho
      · rename_i es c hr
        simp only [Option.some.injEq, Prod.mk.injEq] at ho
        obtain ⟨rfl, rfl, rfl, rfl⟩ := ho
        obtain ⟨g, ents, xm, rfl⟩ := map_row r hx hr
        have hl : ents.size = es.length := by have := EntR_len xm.ents; simpa using this
        exact GoodV.val r (v := goInt (es.length : Nat)) (by simp [-bind_pure_comp, Builtin.len_, h0, run_underlying hu, getObj_run xm.heap, hl]) (VRel_vInt _)
      · cases ho
    · cases ho
  · cases ho

theorem capE_sound (r : Rel F m h w) {ts : Array TypeId} {x y : AV} {xv : Value} {h' : Heap} {sto : Option (Nat × Bool)} {cl : Cl} (hx : VRel F m x xv) (ho : capE P h ts x = some (y, h', sto, cl)) (ty : TypeId) :
    GoodV P F m w y h' (Builtin.cap_ ts ty #[xv]) := by
  unfold capE at ho
  split at ho
  · rename_i t h0
    split at ho
    · rename_i e hu
      simp only [Option.some.injEq, Prod.mk.injEq] at ho
      obtain ⟨rfl, rfl, rfl, rfl⟩ := ho
      simp only [VRel] at hx
      obtain ⟨_, rfl⟩ := hx
      exact GoodV.val r (v := goInt (0 : Nat)) (by simp [-bind_pure_comp, Builtin.cap_, h0, run_underlying hu]) (VRel_vInt _)
    · rename_i e k l hu
      simp only [Option.some.injEq, Prod.mk.injEq] at ho
      obtain ⟨rfl, rfl, rfl, rfl⟩ := ho
      simp only [VRel] at hx
      obtain ⟨ad, cap, cs, g1, g2, g3, g4, g5, g6, rfl⟩ := hx
      have := g6 trivial
      subst this
      exact GoodV.val r (by simp [-bind_pure_comp, Builtin.cap_, h0, run_underlying hu]) (VRel_vInt _)
    · rename_i e id gen i p o k off len n hu
      simp only [Option.some.injEq, Prod.mk.injEq] at ho
      obtain ⟨rfl, rfl, rfl, rfl⟩ := ho
      simp only [VRel] at hx
      obtain ⟨g, C, K, ad, g1, g2, g3, g4, g5, rfl⟩ := hx
      exact GoodV.val r (by simp [-bind_pure_comp, Builtin.cap_, h0, run_underlying hu]) (VRel_vInt _)
    · rename_i e id gen off len hu
      split at ho
      · rename_i k g els ex hr
        cases hb : (Nat.beq g gen && ex.full) with
        | false => simp [hb] at ho
        | true =>
          simp only [hb, cond_true, Option.some.injEq, Prod.mk.injEq] at ho
          obtain ⟨rfl, rfl, rfl, rfl⟩ := ho
          rw [Bool.and_eq_true] at hb
          have eg : g = gen := Nat.eq_of_beq_eq_true hb.1
          subst eg
          obtain ⟨gb, C, e', cur, ad, xr, g1, g2, g3, g4, rfl⟩ := sl_row r hx hr
          have hC := xr.exact hb.2
          exact GoodV.val r (by simp [-bind_pure_comp, Builtin.cap_, h0, run_underlying hu, hC]) (VRel_vInt _)
      · cases ho
    · cases ho
  · cases ho

theorem clearE_sound {E : Env} (hE : E.ZerosOK) (r : Rel F m h w) {ts : Array TypeId} {x y : AV} {xv : Value} {h' : Heap} {sto : Option (Nat × Bool)} {cl : Cl} (hx : VRel F m x xv) (ho : clearE E h ts x = some (y, h', sto, cl)) (ty : TypeId) :
    GoodV E.P F m w y h' (Builtin.clear_ ts ty #[xv]) := by
  unfold clearE at ho
  split at ho
  · rename_i t h0
    split at ho
    · rename_i e hu
      simp only [Option.some.injEq, Prod.mk.injEq] at ho
      obtain ⟨rfl, rfl, rfl, rfl⟩ := ho
      simp only [VRel] at hx
      obtain ⟨_, rfl⟩ := hx
      exact GoodV.val r (v := .tuple #[]) (by simp [-bind_pure_comp, Builtin.clear_, h0, run_underlying hu]) (by simp [VRel, VL])
    · rename_i e id gen off len hu
      split at ho
      · rename_i k g els ex z hr hz
        cases hb : (Nat.beq g gen && Nat.beq (leafs z) k && Nat.ble (off + len) els.length) with
        | false => simp [hb] at ho
        | true =>
          simp only [hb, cond_true, Option.some.injEq, Prod.mk.injEq] at ho
          obtain ⟨rfl, rfl, rfl, rfl⟩ := ho
          simp only [Bool.and_eq_true] at hb
          obtain ⟨⟨c1, c2⟩, c3⟩ := hb
          have eg : g = gen := Nat.eq_of_beq_eq_true c1
          have ek : leafs z = k := Nat.eq_of_beq_eq_true c2
          have hol : off + len ≤ els.length := Nat.le_of_ble_eq_true c3
          subst eg; subst ek
          obtain ⟨gb, C, e', cur, ad, xr, g1, g2, g3, g4, rfl⟩ := sl_row r hx hr
          have hlC := xr.len
          cases len with
          | zero =>
            simp only [List.replicate_zero, setFrom_nil]
            rw [set_self_row hr]
            exact GoodV.val r (v := .tuple #[]) (by simp [-bind_pure_comp, Builtin.clear_, h0, run_underlying hu]) (by simp [VRel, VL])
          | succ len =>
            obtain ⟨v, v1, v2, v3, v4⟩ := zero_run (F := F) (m := m) hE hz w
            have hk0 : 0 < leafs z := xr.pos
            have hzc := zeroCells_eq (z := v.cells) v4 hk0 (len + 1)
            have hcl := CL_replicate v2 v3 (len + 1)
            have hkr := allK_replicate (n := len + 1) (x := z) rfl
            have hL := len_of_CL hcl hkr
            simp only [List.length_replicate] at hL
            have had := addr_eq g2 (g4 (by omega)) g3
            have hmul : (off + (len + 1)) * leafs z ≤ C * leafs z := Nat.mul_le_mul_right _ (by omega)
            have hsize := xr.size
            rw [Nat.add_mul] at hmul
            have hst := run_storeCells_at E.P gb (off * leafs z) e' (List.replicate (len + 1) v.cells.toList).flatten 0 cur w xr.heap (by omega) (CL.one _ _ hcl)
            refine ⟨.tuple #[], w.setRow gb (splice cur.toList (off * leafs z) (List.replicate (len + 1) v.cells.toList).flatten).toArray, F, m, ?_, Ext.refl _ _, by simp [VRel, VL], ?_, same_setRow _ _ _⟩
            · rw [had]
              simp only [Nat.add_zero] at hst
              simp [-bind_pure_comp, Builtin.clear_, h0, run_underlying hu, v1, hzc, hst, splice]
            · obtain ⟨q1, q2⟩ := CL_setFrom (i := off) xr.cells xr.all hcl hkr (by simpa using hol)
              refine r.setRow hr xr (splice_size (by omega)) (by rw [setFrom_length]; exact xr.len) (fun h => by rw [setFrom_length]; exact xr.exact h) q2 ?_
              rw [setFrom_length, List.toList_toArray, take_splice (by rw [hL, ← Nat.add_mul]; exact Nat.mul_le_mul_right _ hol) (by simp [hsize]; exact Nat.mul_le_mul_right _ xr.len)]
              exact q1
      · cases ho
    · cases ho
  · cases ho

theorem builtinE_sound {E : Env} (hE : E.ZerosOK) (r : Rel F m h w) {b : Builtin} {ts : Array TypeId} {ty : TypeId} {args : List AV} {vs : List Value} {cn : Array Bool} {y : AV} {h' : Heap} {sto : Option (Nat × Bool)} {cl : Cl}
    (ho : builtinE E h b ts ty args = some (y, h', sto, cl)) (hv : VL F m args vs) : Good E.P F m w y h' (builtin b ts ty cn vs.toArray) := by
  have pureB : ∀ (s : Array Value → Sem Value), (match toVL args with | some vs => (match pure1 (prun E.P (s vs.toArray)) with | some y => some (y, h, none, .pure) | none => none) | none => none : OpRes) = some (y, h', sto, cl) →
      GoodV E.P F m w y h' (s vs.toArray) := by
    intro s hs
    split at hs
    · rename_i vs' ht
      split at hs
      · rename_i y' hp
        simp only [Option.some.injEq, Prod.mk.injEq] at hs
        obtain ⟨rfl, rfl, rfl, rfl⟩ := hs
        obtain ⟨v, v1, v2, v3, v4⟩ := pure1_rel (F := F) (m := m) hp
        rw [toVL_rel ht hv]
        exact GoodV.val r (prun_run _ _ v1 w) v3
      · cases hs
    · cases hs
  unfold builtinE at ho
  dsimp only at ho
  split at ho
  · rename_i s x
    simp only [VL] at hv
    obtain ⟨v1, _, h1, ⟨v2, _, h2, rfl, rfl⟩, rfl⟩ := hv
    exact (appendE_sound hE r ho h1 h2 ty).good
  · rename_i s x
    simp only [VL] at hv
    obtain ⟨v1, _, h1, ⟨v2, _, h2, rfl, rfl⟩, rfl⟩ := hv
    cases hc : copyE E.P h ts s x with
    | some q =>
      rw [hc] at ho
      simp only [cpO] at ho
      exact (copyE_sound r (hc.trans ho) h1 h2 ty).good
    | none =>
      rw [hc] at ho
      simp only [cpO] at ho
      exact (copyS_sound r ho h1 h2 ty).good
  · simp only [VL] at hv
    obtain ⟨v1, _, h1, rfl, rfl⟩ := hv
    exact (lenE_sound r h1 ho ty).good
  · simp only [VL] at hv
    obtain ⟨v1, _, h1, rfl, rfl⟩ := hv
    exact (capE_sound r h1 ho ty).good
  · simp only [VL] at hv
    obtain ⟨v1, _, h1, rfl, rfl⟩ := hv
    exact (clearE_sound hE r h1 ho ty).good
  · simp only [VL] at hv
    obtain ⟨v1, _, h1, ⟨v2, _, h2, rfl, rfl⟩, rfl⟩ := hv
    exact (deleteE_sound r h1 h2 ho ty).good
  · exact (pureB (Builtin.min_ ts ty) ho).good
  · exact (pureB (Builtin.max_ ts ty) ho).good
  · exact (pureB (Builtin.real_ ts ty) ho).good
  · exact (pureB (Builtin.imag_ ts ty) ho).good
  · exact (pureB (Builtin.complex_ ts ty) ho).good
  · simp only [VL] at hv
    obtain ⟨v1, _, h1, rfl, rfl⟩ := hv
    exact (sliceDataE_sound r ho h1 ts ty).good
  · simp only [VL] at hv
    obtain ⟨v1, _, h1, ⟨v2, _, h2, rfl, rfl⟩, rfl⟩ := hv
    exact (unsafeStringE_sound r ho h1 h2 ty).good
  · cases ho

/-! ### Calls -/
/-- What is owed of a call that runs, or of one that a function of the model answers. -/
def UponC (P : Program) (next : Value → World → Prop) : Result Next → Prop
  | .ok (.value v) w => next v w
  | .ok (.enter f args) w => Calls P f args w fun e w' => ∃ v, e = .returned v ∧ next v w'
  | _ => False

def CallOK (P : Program) (K : CallK) : Prop := ∀ f args h y h' e, K f args h = some (y, h', e) → ∀ F m w vs, Rel F m h w → VL F m args vs → ∀ next : Value → World → Prop,
  (∀ v w' F' m', Ext F m F' m' → VRel F' m' y v → Rel F' m' h' w' → Same w w' → next v w') → UponC P next ((callFunc f vs.toArray).run P w)

structure SRel (F : Fz) (m : Mp) (nt : Nat) (st : St) (a : Act) (w : World) : Prop where
  rel : Rel F m st.h w
  fr : FRel F m st.fr a.tmps
  size : a.tmps.size = nt
  defers : a.defers = []

theorem put_tmps (a : Act) (d : Tmp) (v : Value) : (a.put (some d) v).tmps = a.tmps.setIfInBounds d v := rfl

theorem put_rel_F {nt : Nat} (hf : FRel F m fr a.tmps) (hs : a.tmps.size = nt) {dst : Option Tmp} {y : AV} {v : Value} {fr' : FR} (hp : putF nt fr dst y = some fr') (hv : VRel F m y v) :
    FRel F m fr' (a.put dst v).tmps ∧ (a.put dst v).tmps.size = nt ∧ (a.put dst v).defers = a.defers := by
  cases dst with
  | none =>
    simp only [putF, Option.some.injEq] at hp
    subst hp
    exact ⟨hf, hs, rfl⟩
  | some d =>
    simp only [putF] at hp
    cases hb : Nat.blt d nt with
    | false => simp [hb] at hp
    | true =>
      simp only [hb, cond_true, Option.some.injEq] at hp
      subst hp
      have hd : d < a.tmps.size := by rw [hs]; simpa [Nat.blt_eq] using hb
      refine ⟨⟨fun t z hz => ?_⟩, by rw [put_tmps]; simpa using hs, rfl⟩
      rw [put_tmps]
      simp only [get] at hz
      cases he : Nat.beq d t with
      | true =>
        have : d = t := Nat.eq_of_beq_eq_true he
        subst this
        simp only [he, cond_true, Option.some.injEq] at hz
        subst hz
        exact ⟨v, by simp [hd], hv⟩
      | false =>
        simp only [he, cond_false] at hz
        have hne : d ≠ t := fun e => by subst e; simp at he
        obtain ⟨u, u1, u2⟩ := hf.get t z hz
        exact ⟨u, by rw [Array.getElem?_setIfInBounds_ne hne]; exact u1, u2⟩

theorem wantedE_rel {ops : Array Oper} (hf : FRel F m fr a.tmps) {o : Oper} {b : Bool} (hw : wantedE ops fr o = some b) : Region.wanted o (yielded ops a.tmps) = b := by
  unfold wantedE at hw
  unfold Region.wanted
  split at hw
  · rename_i hg
    injection hw with hw
    rw [hg]
    exact hw
  · rename_i j want hg
    rw [hg]
    dsimp only
    split at hw
    · rename_i d hd
      split at hw
      · rename_i q hq
        injection hw with hw
        obtain ⟨v, v1, v2⟩ := hf.get d _ hq
        simp only [VRel] at v2
        obtain ⟨_, rfl⟩ := v2
        simp only [yielded, hd, Option.bind_some, v1]
        rw [← hw]
        cases q <;> cases want <;> rfl
      · rename_i hq
        injection hw with hw
        obtain ⟨v, v1, v2⟩ := hf.get d _ hq
        simp only [VRel, VL] at v2
        obtain ⟨_, rfl, rfl⟩ := v2
        simp only [yielded, hd, Option.bind_some, v1]
        rw [← hw]
        rfl
      · cases hw
    · rename_i hd
      injection hw with hw
      simp only [yielded, hd, Option.bind_none]
      rw [← hw]
      rfl

theorem good_wp {o : Oper} {y : AV} {h' : Heap} (g : Good P F m w y h' (execOp a.eval o)) {next : Act → World → Prop} {Q : Exit → Act → World → Prop}
    (hn : ∀ v w' F' m', Ext F m F' m' → VRel F' m' y v → Rel F' m' h' w' → Same w w' → next (a.put o.dst v) w') : o.wp P a w next Q := by
  obtain ⟨v, n, w', F', m', h1, h2, h3, h4, h5, h6⟩ := g
  unfold Oper.wp
  rw [h1]
  rcases h2 with rfl | ⟨rfl, rfl⟩
  · exact hn v w' F' m' h3 h4 h5 h6
  · exact hn undef w' F' m' h3 h4 h5 h6

theorem outOf_eq {y : AV} {h' : Heap} {s : Option (Nat × Bool)} {c : Cl} {x : Out} (hx : outOf y h' s c = x) : x.y = y ∧ x.h = h' ∧ x.c = c := by
  subst hx
  cases s <;> exact ⟨rfl, rfl, rfl⟩

theorem VL_append : ∀ {l r : List AV} {xs ys : List Value}, VL F m l xs → VL F m r ys → VL F m (l ++ r) (xs ++ ys)
  | [], r, xs, ys, h1, h2 => by simp only [VL] at h1; subst h1; simpa using h2
  | x :: l, r, xs, ys, h1, h2 => by
    simp only [VL] at h1
    obtain ⟨v, ds, g1, g2, rfl⟩ := h1
    simp only [List.cons_append, VL]
    exact ⟨v, ds ++ ys, g1, VL_append g2 h2, rfl⟩

/-- ONE OPERATION. -/
theorem coreO_sound {E : Env} {K : CallK} (hE : E.ZerosOK) (hK : CallOK E.P K) (r : Rel F m h w) (hf : FRel F m fr a.tmps) {f : FuncId} {o : Oper} {x : Out} (ho : coreO E K f o fr h = some x) {next : Act → World → Prop} {Q : Exit → Act → World → Prop}
    (hn : ∀ v w' F' m', Ext F m F' m' → VRel F' m' x.y v → Rel F' m' x.h w' → Same w w' → next (a.put o.dst v) w') : o.wp E.P a w next Q := by
  unfold coreO at ho
  split at ho
  · -- a call
    rename_i c hop
    split at ho
    · -- of a builtin
      rename_i b hc
      split at ho
      · rename_i l hl
        split at ho
        · rename_i y h' s cl hb
          injection ho with ho
          obtain ⟨e1, e2, e3⟩ := outOf_eq ho
          rw [e1, e2] at hn
          have hv := evL_rel hf hl
          have g := builtinE_sound (cn := c.args.map fun | .const _ => true | _ => false) hE r hb hv
          refine good_wp ?_ hn
          have : execOp a.eval o = builtin b c.argTypes o.type (c.args.map fun | .const _ => true | _ => false) (c.args.toList.map a.eval).toArray := by
            unfold execOp
            rw [hop]
            have e4 : c.args.map a.eval = (c.args.toList.map a.eval).toArray := (map_toArray a.eval c.args _ rfl).symm
            simp only [resolve, hc, e4]
            rfl
          rw [this]
          exact g
        · cases ho
      · cases ho
    · -- of a function
      rename_i hnb
      split at ho
      · rename_i g l hc
        split at ho
        · rename_i y h' e hk
          injection ho with ho
          subst ho
          unfold callArgs at hc
          split at hc
          · rename_i fx hfx
            split at hc
            · rename_i g' first captured l' hev hl
              simp only [Option.some.injEq, Prod.mk.injEq] at hc
              obtain ⟨rfl, rfl⟩ := hc
              have hv := ev_rel hf hev
              simp only [VRel] at hv
              obtain ⟨xs, ys, v1, v2, v3⟩ := hv
              have hvl := VL_append (VL_append v1 (evL_rel hf hl)) v2
              have key := hK _ _ _ _ _ _ hk F m w _ r hvl (fun v w' => next (a.put o.dst v) w') hn
              have hex : execOp a.eval o = callFunc g' (xs ++ c.args.toList.map a.eval ++ ys).toArray := by
                unfold execOp
                rw [hop]
                have e4 : c.args.map a.eval = (c.args.toList.map a.eval).toArray := (map_toArray a.eval c.args _ rfl).symm
                simp only [resolve, hfx, Deferred.ofValue, v3]
                show callFunc g' (xs.toArray ++ c.args.map a.eval ++ ys.toArray) = _
                rw [e4]
                simp
              unfold Oper.wp
              rw [hex]
              generalize (callFunc g' (xs ++ c.args.toList.map a.eval ++ ys).toArray).run E.P w = res at key
              unfold UponC at key
              split at key
              · exact key
              · exact key.mono fun e w' he => by
                  obtain ⟨v, rfl, hv⟩ := he
                  exact hv
              · exact key.elim
            · cases hc
          · cases hc
        · cases ho
      · cases ho
  · -- a map written
    rename_i t mo ko xo hop
    split at ho
    · rename_i mp k z e1 e2 e3
      split at ho
      · rename_i h' id hu
        injection ho with ho
        obtain ⟨g1, g2, g3⟩ := outOf_eq ho
        rw [g1, g2] at hn
        obtain ⟨w', u1, u2, u3⟩ := updateE_run r (ev_rel hf e1) (ev_rel hf e2) (ev_rel hf e3) hu
        unfold Oper.wp
        have : (execOp a.eval o).run E.P w = .ok .skip w' := by unfold execOp; rw [hop]; simp [u1]
        rw [this]
        exact hn undef w' F m (Ext.refl _ _) (by simp [VRel, VL, undef]) u2 u3
      · cases ho
    · cases ho
  · -- a map literal's entry
    rename_i t mo ko xo hop
    split at ho
    · rename_i mp k z e1 e2 e3
      split at ho
      · rename_i h' id hu
        injection ho with ho
        obtain ⟨g1, g2, g3⟩ := outOf_eq ho
        rw [g1, g2] at hn
        obtain ⟨w', u1, u2, u3⟩ := updateE_run r (ev_rel hf e1) (ev_rel hf e2) (ev_rel hf e3) hu
        unfold Oper.wp
        have : (execOp a.eval o).run E.P w = .ok .skip w' := by unfold execOp; rw [hop]; simp [u1]
        rw [this]
        exact hn undef w' F m (Ext.refl _ _) (by simp [VRel, VL, undef]) u2 u3
      · cases ho
    · cases ho
  · -- a map read
    rename_i t mo ko ok hop
    split at ho
    · rename_i mp k e1 e2
      split at ho
      · rename_i y hy
        injection ho with ho
        obtain ⟨g1, g2, g3⟩ := outOf_eq ho
        rw [g1, g2] at hn
        obtain ⟨v, v1, v2⟩ := lookupE_run hE r (ev_rel hf e1) (ev_rel hf e2) hy
        unfold Oper.wp
        have : (execOp a.eval o).run E.P w = .ok (.value v) w := by unfold execOp; rw [hop]; simp [v1]
        rw [this]
        exact hn v w F m (Ext.refl _ _) v2 r (Same.refl _)
      · cases ho
    · cases ho
  · split at ho
    · rename_i y h' s hp
      injection ho with ho
      obtain ⟨g1, g2, g3⟩ := outOf_eq ho
      rw [g1, g2] at hn
      exact good_wp (opE_sound hE r hf hp) hn
    · cases ho
  · split at ho
    · rename_i y h' s hp
      injection ho with ho
      obtain ⟨g1, g2, g3⟩ := outOf_eq ho
      rw [g1, g2] at hn
      exact good_wp (opE_sound hE r hf hp) hn
    · cases ho

/-! ### A row of operations in its order -/
theorem SRel.next {nt : Nat} {st : St} (s : SRel F m nt st a w) {F' : Fz} {m' : Mp} {w' : World} {dst : Option Tmp} {y : AV} {v : Value} {fr' : FR} {h' : Heap} {ds ls : List Nat} (he : Ext F m F' m') (hp : putF nt st.fr dst y = some fr') (hv : VRel F' m' y v)
    (hr : Rel F' m' h' w') : SRel F' m' nt ⟨fr', h', ds, ls⟩ (a.put dst v) w' := by
  obtain ⟨g1, g2, g3⟩ := put_rel_F (s.fr.mono he) s.size hp hv
  exact ⟨hr, g1, g2, by rw [g3]; exact s.defers⟩

/-- ONE STEP of a region, whether it is carried out or not. -/
theorem stepO_sound {E : Env} {K : CallK} (hE : E.ZerosOK) (hK : CallOK E.P K) {f : FuncId} {nt n0 : Nat} {ops : Array Oper} {i : Nat} {o : Oper} (hi : ops[i]? = some o) {st st' : St} {c : Cl} (hs : stepO E K f nt n0 ops o st = some (st', c)) (s : SRel F m nt st a w)
    {next : Act → World → Prop} {Q : Exit → Act → World → Prop} (hn : ∀ a' w' F' m', Ext F m F' m' → SRel F' m' nt st' a' w' → Same w w' → next a' w') : wpOp E.P ops Q i next a w := by
  unfold wpOp
  rw [hi]
  dsimp only
  unfold stepO at hs
  split at hs
  · rename_i hw
    rw [wantedE_rel s.fr hw]
    split at hs
    · rename_i fr' hp
      simp only [Option.some.injEq, Prod.mk.injEq] at hs
      obtain ⟨rfl, rfl⟩ := hs
      simp only [Bool.false_eq_true, if_false]
      exact hn _ _ F m (Ext.refl _ _) (s.next (Ext.refl _ _) hp (by simp [VRel, VL, undef]) s.rel) (Same.refl _)
    · cases hs
  · rename_i hw
    rw [wantedE_rel s.fr hw]
    split at hs
    · rename_i x hx
      split at hs
      · rename_i fr' hp
        simp only [Option.some.injEq, Prod.mk.injEq] at hs
        obtain ⟨rfl, rfl⟩ := hs
        simp only [if_true]
        refine .inl (coreO_sound hE hK s.rel s.fr hx fun v w' F' m' he hv hr hsm => ?_)
        exact hn _ _ F' m' he (s.next he hp hv hr) hsm
      · cases hs
    · cases hs
  · cases hs

theorem runOps_sound {E : Env} {K : CallK} (hE : E.ZerosOK) (hK : CallOK E.P K) {f : FuncId} {nt n0 : Nat} {ops : Array Oper} {Q : Exit → Act → World → Prop} {st' : St} {cs' : List Cl} :
    ∀ (os : List Oper) (i : Nat) (st : St) (cs : List Cl) (F : Fz) (m : Mp) (a : Act) (w : World), (∀ j, os[j]? = ops[i + j]?) → runOps E K f nt n0 ops os st cs = some (st', cs') → SRel F m nt st a w →
      (∀ a' w' F' m', Ext F m F' m' → SRel F' m' nt st' a' w' → Same w w' → Q .normal a' w') → wpOps E.P ops Q (List.range' i os.length) a w
  | [], i, st, cs, F, m, a, w, _, hs, s, hq => by
    simp only [runOps, Option.some.injEq, Prod.mk.injEq] at hs
    obtain ⟨rfl, rfl⟩ := hs
    exact hq a w F m (Ext.refl _ _) s (Same.refl _)
  | o :: os, i, st, cs, F, m, a, w, ho, hs, s, hq => by
    simp only [runOps] at hs
    split at hs
    · rename_i st1 c hstep
      have hi : ops[i]? = some o := by have := ho 0; simpa using this.symm
      rw [List.length_cons, List.range'_succ, wpOps_cons]
      refine stepO_sound hE hK hi hstep s fun a' w' F' m' he s' hsm => ?_
      refine runOps_sound hE hK os (i + 1) st1 (c :: cs) F' m' a' w' (fun j => ?_) hs s' fun a2 w2 F2 m2 he2 s2 hsm2 => hq a2 w2 F2 m2 (he.trans he2) s2 (hsm.trans hsm2)
      have := ho (j + 1)
      rw [List.getElem?_cons_succ] at this
      rw [this]
      congr 1
      omega
    · cases hs

end Go.AM
