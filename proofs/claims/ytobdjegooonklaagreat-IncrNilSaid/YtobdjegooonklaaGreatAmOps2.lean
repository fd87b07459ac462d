/- The operations of the abstract machine that call nothing are those of the real one. Conditions: none. -/
import Derived.Test.YtobdjegooonklaaGreatAmOps
set_option linter.unusedVariables false
set_option linter.unusedSimpArgs false
namespace Go.AM
open Go

/-- Each zero value of the table is the program's. -/
def Env.ZerosOK (E : Env) : Prop := ∀ t z, E.zero t = some z → ∃ i v, E.P.info? t = some i ∧ i.zero = some v ∧ toV z = some v

variable {F : Fz} {m : Mp} {fr : FR} {a : Act} {h : Heap} {w : World} {P : Program}

/-- What one operation owes. -/
def Good (P : Program) (F : Fz) (m : Mp) (w : World) (y : AV) (h' : Heap) (s : Sem Next) : Prop :=
  ∃ v n w' F' m', s.run P w = .ok n w' ∧ (n = .value v ∨ (n = .skip ∧ v = undef)) ∧ Ext F m F' m' ∧ VRel F' m' y v ∧ Rel F' m' h' w' ∧ Same w w'

theorem Good.val {y : AV} {s : Sem Value} {v : Value} (r : Rel F m h w) (hr : s.run P w = .ok v w) (hv : VRel F m y v) : Good P F m w y h (do pure (.value (← s))) :=
  ⟨v, .value v, w, F, m, by simp [hr], .inl rfl, Ext.refl _ _, hv, r, Same.refl _⟩

theorem Good.new {y : AV} {s : Sem Value} {v : Value} {w' : World} {m' : Mp} {h' : Heap} (hr : s.run P w = .ok v w') (he : Ext F m F m') (hv : VRel F m' y v) (r : Rel F m' h' w') (hs : Same w w') :
    Good P F m w y h' (do pure (.value (← s))) :=
  ⟨v, .value v, w', F, m', by simp [hr], .inl rfl, he, hv, r, hs⟩

theorem one_eq {x : Option AV} {y : AV} {h' : Heap} {s : Option (Nat × Bool)}
    (ho : (match x with | some y => some (y, h, none) | none => none : Option (AV × Heap × Option (Nat × Bool))) = some (y, h', s)) : x = some y ∧ h' = h ∧ s = none := by
  cases x with
  | none => simp at ho
  | some z =>
    simp only [Option.some.injEq, Prod.mk.injEq] at ho
    exact ⟨by rw [ho.1], ho.2.1.symm, ho.2.2.symm⟩

/-! ### Zero values, new rows -/
theorem zero_run {E : Env} (hE : E.ZerosOK) {t : TypeId} {z : AV} (hz : E.zero t = some z) (w : World) : ∃ v, (zeroValue t).run E.P w = .ok v w ∧ VRel F m z v ∧ isTup v = false ∧ v.cells.size = leafs z := by
  obtain ⟨i, v, h1, h2, h3⟩ := hE t z hz
  obtain ⟨g1, g2⟩ := toV_self (F := F) (m := m) z v h3
  exact ⟨v, by simp [zeroValue, typeInfo, h1, h2], g1, g2, VRel.size z v g1 g2⟩

theorem newVar_good (r : Rel F m h w) {y : AV} {v : Value} (hv : VRel F m y v) (ht : isTup v = false) (hk : 1 ≤ leafs y) (e : TypeId) :
    ∃ m', (newVar e v).run P w = .ok ⟨w.heap.size, 0, none⟩ (w.alloc (.cells v.cells e)) ∧ Ext F m F m' ∧ VRel F m' (.ptr h.length 0 0 [] 0) (.pointer (some ⟨w.heap.size, 0, none⟩)) ∧
      Rel F m' (newRow h (leafs y) [y] ⟨true, e⟩) (w.alloc (.cells v.cells e)) := by
  have hs := VRel.size y v hv ht
  obtain ⟨r', he⟩ := r.newRow (k := leafs y) (C := 1) (els := [y]) (ex := ⟨true, e⟩) (cells := v.cells) (by omega) (by omega) (by simp) (by simp) (by simp [maxLen]) (by simp [allK])
    (by simp only [List.length_singleton, Nat.one_mul]; rw [List.take_of_length_le (by simp; omega)]; simp only [CL]; exact ⟨v, [], hv, ht, rfl, by simp⟩)
  refine ⟨_, by simp [newVar, Go.newRow], he, ?_, r'⟩
  simp only [VRel]
  exact ⟨w.heap.size, 1, leafs y, Mp.add_same, by simp⟩

/-! ### Structs and rows laid out of parts -/
theorem fold_set (off : Nat) : ∀ (zs : List Value) (n : Nat) (cs : Array Value), off + n + zs.length ≤ cs.size →
    (zs.zipIdx n).foldl (fun (cs : Array Value) (q : Value × Nat) => cs.setIfInBounds (off + q.2) q.1) cs = (splice cs.toList (off + n) zs).toArray
  | [], n, cs, hl => by simp [splice]
  | z :: zs, n, cs, hl => by
    simp only [List.zipIdx_cons, List.foldl_cons]
    rw [fold_set off zs (n + 1) _ (by simp at hl ⊢; omega)]
    congr 1
    have := list_seg_step cs.toList (off + n) z zs (by simp at hl ⊢; omega)
    unfold splice
    simp only [Array.toList_setIfInBounds, List.length_cons]
    rw [show off + (n + 1) = off + n + 1 by omega]
    exact this

theorem fill_run {place : Nat → Option (Nat × Nat)} : ∀ {qs : List (Nat × AV)} {z z' : List AV} {cs : List Value} {vs : List (Nat × Value)}, setParts place z qs = some z' → CL F m z cs → PL F m qs vs →
    ∃ cs', Instr.fill place cs.toArray vs = some cs'.toArray ∧ CL F m z' cs'
  | [], z, z', cs, vs, hs, hc, hp => by
    simp only [PL] at hp
    simp only [setParts, Option.some.injEq] at hs
    subst hs; subst hp
    exact ⟨cs, by simp [Instr.fill], hc⟩
  | (i, y) :: qs, z, z', cs, vs, hs, hc, hp => by
    simp only [PL] at hp
    obtain ⟨v, r, h1, h2, rfl⟩ := hp
    simp only [setParts] at hs
    cases hpl : place i with
    | none => simp [hpl] at hs
    | some q =>
      obtain ⟨off, sz⟩ := q
      simp only [hpl] at hs
      cases hb : (Nat.beq (leafs y) sz && !isTupA y) with
      | false => simp [hb] at hs
      | true =>
        simp only [hb, cond_true] at hs
        rw [Bool.and_eq_true] at hb
        have e1 : leafs y = sz := Nat.eq_of_beq_eq_true hb.1
        have e2 : isTupA y = false := by simpa using hb.2
        subst e1
        have hvt := notTup_of h1 e2
        have hvs := VRel.size y v h1 hvt
        cases hput : putL z i [] off y with
        | none => simp [hput] at hs
        | some z1 =>
          simp only [hput] at hs
          obtain ⟨cs1, g1, g2, g3, g4⟩ := putL_rel h1 hvt z i [] off z1 hput cs hc
          have hcl := CL.size _ _ hc
          obtain ⟨cs2, k1, k2⟩ := fill_run hs g1 h2
          refine ⟨cs2, ?_, k2⟩
          simp only [Instr.fill, hpl]
          rw [if_neg (by simp [hvs]; omega)]
          have hf : v.cells.zipIdx.foldl (fun (cs : Array Value) (q : Value × Nat) => cs.setIfInBounds (off + q.2) q.1) cs.toArray = cs1.toArray := by
            rw [← Array.foldl_toList, Array.toList_zipIdx]
            have := fold_set off v.cells.toList 0 cs.toArray (by simp [hvs]; omega)
            simp only [Nat.add_zero] at this
            rw [this, g2]
          have hf' : v.cells.zipIdx.foldl (fun (cs : Array Value) (x : Value × Nat) => match x with | (c, j) => cs.setIfInBounds (off + j) c) cs.toArray = cs1.toArray := hf
          rw [hf']
          exact k1

theorem places_run : ∀ {fs : List Field} {pl : List (Nat × Nat)}, placesE P fs = some pl → ∀ (w : World),
    (fs.mapM (m := Sem) fun f => do pure (f.offset, ← sizeOf f.type)).run P w = .ok pl w
  | [], pl, hp, w => by simp [placesE] at hp; simp [hp]
  | f :: fs, pl, hp, w => by
    simp only [placesE] at hp
    cases hs : szOf P f.type with
    | none => simp [hs] at hp
    | some n =>
      cases hl : placesE P fs with
      | none => simp [hs, hl] at hp
      | some l =>
        simp only [hs, hl, Option.some.injEq] at hp
        subst hp
        simp [-bind_pure_comp, szOf_run hs, places_run hl w]

theorem mapM_array {α β : Type} (as : Array α) (f : α → Sem β) (l : List β) (w : World) (hr : (as.toList.mapM f).run P w = .ok l w) : (as.mapM f).run P w = .ok l.toArray w := by
  rw [Array.mapM_eq_mapM_toList]
  simp [hr]

theorem build_run {E : Env} (hE : E.ZerosOK) {t : TypeId} {qs : List (Nat × AV)} {ps : Array (Nat × Value)} {y : AV} (hb : buildE E t qs = some y) (hp : PL F m qs ps.toList) (w : World) :
    ∃ v, (Instr.build t ps).run E.P w = .ok v w ∧ VRel F m y v := by
  unfold buildE at hb
  split at hb
  · rename_i fs z hu hz
    cases hpl : placesE E.P fs.toList with
    | none => simp [hpl] at hb
    | some pl =>
      simp only [hpl] at hb
      cases hsp : setParts (fun i => pl[i]?) z qs with
      | none => simp [hsp] at hb
      | some l =>
        simp only [hsp, Option.some.injEq] at hb
        subst hb
        obtain ⟨v, v1, v2, v3, v4⟩ := zero_run (F := F) (m := m) hE hz w
        obtain ⟨v5, v6⟩ := v2.ofAgg
        obtain ⟨cs', f1, f2⟩ := fill_run hsp v6 hp
        refine ⟨.agg cs'.toArray, ?_, by simp only [VRel]; exact ⟨cs', f2, rfl⟩⟩
        have hm := mapM_array (P := E.P) fs (fun f => do pure (f.offset, ← sizeOf f.type)) pl w (places_run hpl w)
        have hf : Instr.fill (fun i : Nat => pl[i]?) v.cells ps.toList = some cs'.toArray := by simpa using f1
        simp [-bind_pure_comp, Instr.build, v1, run_underlying hu, hm, hf]
  · rename_i n e z hu hz
    cases hsz : szOf E.P e with
    | none => simp [hsz] at hb
    | some k =>
      simp only [hsz] at hb
      cases hsp : setParts (fun i => some (i * k, k)) z qs with
      | none => simp [hsp] at hb
      | some l =>
        simp only [hsp, Option.some.injEq] at hb
        subst hb
        obtain ⟨v, v1, v2, v3, v4⟩ := zero_run (F := F) (m := m) hE hz w
        obtain ⟨v5, v6⟩ := v2.ofAgg
        obtain ⟨cs', f1, f2⟩ := fill_run hsp v6 hp
        refine ⟨.agg cs'.toArray, ?_, by simp only [VRel]; exact ⟨cs', f2, rfl⟩⟩
        have hf : Instr.fill (fun i => some (i * k, k)) v.cells ps.toList = some cs'.toArray := by simpa using f1
        simp [Instr.build, v1, run_underlying hu, szOf_run hsz, hf]
  · cases hb

theorem CL_replicate {z : AV} {v : Value} (hv : VRel F m z v) (ht : isTup v = false) : ∀ n : Nat, CL F m (List.replicate n z) (List.replicate n v.cells.toList).flatten
  | 0 => by simp [CL]
  | n + 1 => by
    simp only [List.replicate_succ, CL, List.flatten_cons]
    exact ⟨v, _, hv, ht, CL_replicate hv ht n, rfl⟩

theorem range_mod (zs : Array Value) (k : Nat) (hk : zs.size = k) (h0 : 0 < k) : ∀ n : Nat, ((Array.range (n * k)).map (zs[· % zs.size]!)).toList = (List.replicate n zs.toList).flatten := by
  intro n
  induction n with
  | zero => simp
  | succ n ih =>
    rw [List.replicate_succ', List.flatten_append]
    simp only [List.flatten_cons, List.flatten_nil, List.append_nil]
    rw [← ih, Nat.add_mul, Nat.one_mul]
    simp only [Array.toList_map, Array.toList_range, List.range_add, List.map_append, List.map_map]
    congr 1
    apply List.ext_getElem
    · simp [hk]
    · intro i h1 h2
      have hi : i < k := by simpa using h1
      have : (n * k + i) % k = i := by rw [Nat.add_comm, Nat.add_mul_mod_self_right, Nat.mod_eq_of_lt hi]
      simp [hk, this, getElem!_pos zs i (by omega)]

/-! ### Held against nil -/
theorem equal_nil {t : TypeId} {d : TypeDesc} {xv yv : Value} {b : Bool} (hu : P.underlying t = some d)
    (hc : (∃ e ad, d = .pointer e ∧ xv = .pointer (some ad) ∧ yv = .pointer none ∧ b = false) ∨ (∃ e ad, d = .pointer e ∧ xv = .pointer none ∧ yv = .pointer (some ad) ∧ b = false) ∨
      (∃ e ad n c, d = .slice e ∧ xv = .slice (some ad) n c ∧ yv = .slice none 0 0 ∧ b = false) ∨
      (∃ k e g, d = .map k e ∧ xv = .map (some g) ∧ yv = .map none ∧ b = false) ∨ (∃ k e g, d = .map k e ∧ xv = .map none ∧ yv = .map (some g) ∧ b = false) ∨
      (∃ p q r f xs ys, d = .func p q r ∧ xv = .func f xs ys ∧ yv = .nilFunc ∧ b = false)) (w : World) :
    (Op.equal t xv yv).run P w = .ok b w := by
  have hd : (underlying t).run P w = .ok d w := run_underlying hu w
  show (Op.equalIn (9999 + 1) t xv yv).run P w = .ok b w
  rcases hc with ⟨e, ad, rfl, rfl, rfl, rfl⟩ | ⟨e, ad, rfl, rfl, rfl, rfl⟩ | ⟨e, ad, n, c, rfl, rfl, rfl, rfl⟩ | ⟨k, e, g, rfl, rfl, rfl, rfl⟩ | ⟨k, e, g, rfl, rfl, rfl, rfl⟩ | ⟨p, q, s, f, xs, ys, rfl, rfl, rfl, rfl⟩ <;>
    (unfold Op.equalIn; rw [Sem.run_bind, hd]; rfl)

theorem nilEq_run {t : TypeId} {d : TypeDesc} {x y : AV} {b : Bool} {xv yv : Value} (hu : P.underlying t = some d) (hn : nilEq d x y = some b) (hx : VRel F m x xv) (hy : VRel F m y yv) (ox oy : Operand) (w : World) :
    (eqGuard .eql t ox oy xv yv).run P w = .ok () w ∧ (eqGuard .neq t ox oy xv yv).run P w = .ok () w ∧ (binOp .eql t xv yv).run P w = .ok (.bool b) w ∧ (binOp .neq t xv yv).run P w = .ok (.bool !b) w := by
  have key : (∃ e ad, d = .pointer e ∧ xv = .pointer (some ad) ∧ yv = .pointer none ∧ b = false) ∨ (∃ e ad, d = .pointer e ∧ xv = .pointer none ∧ yv = .pointer (some ad) ∧ b = false) ∨
      (∃ e ad n c, d = .slice e ∧ xv = .slice (some ad) n c ∧ yv = .slice none 0 0 ∧ b = false) ∨
      (∃ k e g, d = .map k e ∧ xv = .map (some g) ∧ yv = .map none ∧ b = false) ∨ (∃ k e g, d = .map k e ∧ xv = .map none ∧ yv = .map (some g) ∧ b = false) ∨
      (∃ p q r f xs ys, d = .func p q r ∧ xv = .func f xs ys ∧ yv = .nilFunc ∧ b = false) := by
    unfold nilEq at hn
    split at hn <;> first
      | (cases hn; done)
      | skip
    all_goals
      injection hn with hn
      subst hn
      simp only [VRel] at hx hy
    · obtain ⟨g, C, k, _, rfl⟩ := hx; obtain ⟨_, rfl⟩ := hy; exact .inl ⟨_, _, rfl, rfl, rfl, rfl⟩
    · obtain ⟨ad, z, _, _, _, _, rfl⟩ := hx; obtain ⟨_, rfl⟩ := hy; exact .inl ⟨_, _, rfl, rfl, rfl, rfl⟩
    · obtain ⟨g, C, k, _, rfl⟩ := hy; obtain ⟨_, rfl⟩ := hx; exact .inr (.inl ⟨_, _, rfl, rfl, rfl, rfl⟩)
    · obtain ⟨ad, z, _, _, _, _, rfl⟩ := hy; obtain ⟨_, rfl⟩ := hx; exact .inr (.inl ⟨_, _, rfl, rfl, rfl, rfl⟩)
    · obtain ⟨g, C, k, ad, _, _, _, _, _, rfl⟩ := hx; obtain ⟨_, rfl⟩ := hy; exact .inr (.inr (.inl ⟨_, _, _, _, rfl, rfl, rfl, rfl⟩))
    · obtain ⟨ad, cap, cs, _, _, _, _, _, _, rfl⟩ := hx; obtain ⟨_, rfl⟩ := hy; exact .inr (.inr (.inl ⟨_, _, _, _, rfl, rfl, rfl, rfl⟩))
    · obtain ⟨g, C, k, ad, _, _, _, _, _, rfl⟩ := hx; obtain ⟨_, rfl⟩ := hy; exact .inr (.inr (.inl ⟨_, _, _, _, rfl, rfl, rfl, rfl⟩))
    · obtain ⟨g, _, rfl⟩ := hx; obtain ⟨_, rfl⟩ := hy; exact .inr (.inr (.inr (.inl ⟨_, _, _, rfl, rfl, rfl, rfl⟩)))
    · obtain ⟨g, _, rfl⟩ := hy; obtain ⟨_, rfl⟩ := hx; exact .inr (.inr (.inr (.inr (.inl ⟨_, _, _, rfl, rfl, rfl, rfl⟩))))
    · obtain ⟨xs, ys, _, _, rfl⟩ := hx; obtain ⟨_, rfl⟩ := hy; exact .inr (.inr (.inr (.inr (.inr ⟨_, _, _, _, _, _, rfl, rfl, rfl, rfl⟩))))
  have e := equal_nil hu key w
  have e1 : (binOp .eql t xv yv) = (do pure (.bool (← Op.equal t xv yv)) : Sem Value) := by
    rcases key with ⟨e, ad, rfl, rfl, rfl, rfl⟩ | ⟨e, ad, rfl, rfl, rfl, rfl⟩ | ⟨e, ad, n, c, rfl, rfl, rfl, rfl⟩ | ⟨k, e, g, rfl, rfl, rfl, rfl⟩ | ⟨k, e, g, rfl, rfl, rfl, rfl⟩ | ⟨p, q, s, f, xs, ys, rfl, rfl, rfl, rfl⟩ <;> rfl
  have e2 : (binOp .neq t xv yv) = (do pure (.bool (!(← Op.equal t xv yv))) : Sem Value) := by
    rcases key with ⟨e, ad, rfl, rfl, rfl, rfl⟩ | ⟨e, ad, rfl, rfl, rfl, rfl⟩ | ⟨e, ad, n, c, rfl, rfl, rfl, rfl⟩ | ⟨k, e, g, rfl, rfl, rfl, rfl⟩ | ⟨k, e, g, rfl, rfl, rfl, rfl⟩ | ⟨p, q, s, f, xs, ys, rfl, rfl, rfl, rfl⟩ <;> rfl
  have g1 : eqGuard .eql t ox oy xv yv = pure () := by
    rcases key with ⟨e, ad, rfl, rfl, rfl, rfl⟩ | ⟨e, ad, rfl, rfl, rfl, rfl⟩ | ⟨e, ad, n, c, rfl, rfl, rfl, rfl⟩ | ⟨k, e, g, rfl, rfl, rfl, rfl⟩ | ⟨k, e, g, rfl, rfl, rfl, rfl⟩ | ⟨p, q, s, f, xs, ys, rfl, rfl, rfl, rfl⟩ <;> rfl
  have g2 : eqGuard .neq t ox oy xv yv = pure () := by
    rcases key with ⟨e, ad, rfl, rfl, rfl, rfl⟩ | ⟨e, ad, rfl, rfl, rfl, rfl⟩ | ⟨e, ad, n, c, rfl, rfl, rfl, rfl⟩ | ⟨k, e, g, rfl, rfl, rfl, rfl⟩ | ⟨k, e, g, rfl, rfl, rfl, rfl⟩ | ⟨p, q, s, f, xs, ys, rfl, rfl, rfl, rfl⟩ <;> rfl
  exact ⟨by rw [g1]; rfl, by rw [g2]; rfl, by rw [e1]; simp [-bind_pure_comp, e], by rw [e2]; simp [-bind_pure_comp, e]⟩

theorem ptrSame_run {t : TypeId} {d : TypeDesc} {x y : AV} {xv yv : Value} (hu : P.underlying t = some d) (hn : ptrSame P d x y = true) (hx : VRel F m x xv) (hy : VRel F m y yv) (ox oy : Operand) (w : World) :
    (eqGuard .eql t ox oy xv yv).run P w = .ok () w ∧ (eqGuard .neq t ox oy xv yv).run P w = .ok () w ∧ (binOp .eql t xv yv).run P w = .ok (.bool true) w ∧ (binOp .neq t xv yv).run P w = .ok (.bool false) w := by
  unfold ptrSame at hn
  split at hn
  · rename_i e id gen i p o id' gen' i' p' o'
    simp only [Bool.and_eq_true] at hn
    obtain ⟨⟨⟨⟨h0, h1⟩, h2⟩, h3⟩, h4⟩ := hn
    have e1 := Nat.eq_of_beq_eq_true h1
    have e2 := Nat.eq_of_beq_eq_true h2
    have e3 := Nat.eq_of_beq_eq_true h3
    have e4 := Nat.eq_of_beq_eq_true h4
    subst e1; subst e2; subst e3; subst e4
    simp only [VRel] at hx hy
    obtain ⟨g, C, k, g1, rfl⟩ := hx
    obtain ⟨g', C', k', g2, rfl⟩ := hy
    rw [g1] at g2
    injection g2 with g2
    injection g2 with q1 q2
    injection q2 with q2 q3
    subst q1; subst q3
    cases hs : szOf P e with
    | none => simp [hs] at h0
    | some n =>
      simp only [hs] at h0
      have hn0 : n ≠ 0 := by have := Nat.le_of_ble_eq_true h0; omega
      have hd : (underlying t).run P w = .ok (.pointer e) w := run_underlying hu w
      have he : (Op.equal t (.pointer (some ⟨g, i * k + o, none⟩)) (.pointer (some ⟨g, i * k + o, none⟩))).run P w = .ok true w := by
        show (Op.equalIn (9999 + 1) t _ _).run P w = .ok true w
        unfold Op.equalIn
        rw [Sem.run_bind, hd]
        simp [-bind_pure_comp, szOf_run hs, hn0, sameAddr]
      refine ⟨rfl, rfl, ?_, ?_⟩
      · have : binOp .eql t (.pointer (some ⟨g, i * k + o, none⟩)) (.pointer (some ⟨g, i * k + o, none⟩)) = (do pure (.bool (← Op.equal t (.pointer (some ⟨g, i * k + o, none⟩)) (.pointer (some ⟨g, i * k + o, none⟩)))) : Sem Value) := rfl
        rw [this]
        simp [-bind_pure_comp, he]
      · have : binOp .neq t (.pointer (some ⟨g, i * k + o, none⟩)) (.pointer (some ⟨g, i * k + o, none⟩)) = (do pure (.bool (!(← Op.equal t (.pointer (some ⟨g, i * k + o, none⟩)) (.pointer (some ⟨g, i * k + o, none⟩))))) : Sem Value) := rfl
        rw [this]
        simp [-bind_pure_comp, he]
  · cases hn

end Go.AM
