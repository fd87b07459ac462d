/- Conversions, rows and maps made, and all operations that call nothing, joined. Conditions: none. -/
import Derived.Test.YtobdjegooonklaaGreatAmOps4
set_option linter.unusedVariables false
set_option linter.unusedSimpArgs false
namespace Go.AM
open Go

variable {F : Fz} {m : Mp} {fr : FR} {a : Act} {h : Heap} {w : World} {P : Program}

def Fz.add (F : Fz) (g : Nat) (o : Obj) : Fz := fun b => if b = g then some o else F b

theorem Rel.none_at {g : Nat} (r : Rel F m h w) (hg : w.heap.size ≤ g) : F g = none := by
  cases hb : F g with
  | none => rfl
  | some o =>
    have := (Array.getElem?_eq_some_iff.1 (r.fz _ _ hb)).1
    omega

/-- A new block that is never written. -/
theorem Rel.frozenBlock (r : Rel F m h w) (o : Obj) : Rel (Fz.add F w.heap.size o) m h (w.alloc o) ∧ Ext F m (Fz.add F w.heap.size o) m := by
  have hne : ∀ b x, w.heap[b]? = some x → b ≠ w.heap.size := fun b x hb => by
    have := (Array.getElem?_eq_some_iff.1 hb).1
    omega
  have he : Ext F m (Fz.add F w.heap.size o) m := ⟨fun b x hb => by unfold Fz.add; rw [if_neg (hne b x (r.fz b x hb))]; exact hb, fun _ _ _ hx => hx, fun _ _ hx => hx⟩
  refine ⟨⟨fun b x hb => ?_, fun id k gen els ex hi => ?_, fun id es c hi => ?_, r.fresh, r.freshM, r.inj, r.injM⟩, he⟩
  · unfold Fz.add at hb
    split at hb
    · rename_i e
      injection hb with hb
      subst e; subst hb
      exact heap_alloc_self w o
    · exact heap_alloc_old w o (r.fz b x hb)
  · obtain ⟨g, C, t, cur, x⟩ := r.row id k gen els ex hi
    refine ⟨g, C, t, cur, ⟨x.mp, x.pos, heap_alloc_old w o x.heap, ?_, x.size, x.len, x.exact, x.ty, x.most, x.all, x.cells.mono he, x.gens⟩⟩
    unfold Fz.add
    rw [if_neg (hne _ _ x.heap)]
    exact x.own
  · obtain ⟨g, ents, x⟩ := r.map id es c hi
    refine ⟨g, ents, ⟨x.mp, heap_alloc_old w o x.heap, ?_, x.ents.mono he⟩⟩
    unfold Fz.add
    rw [if_neg (hne _ _ x.heap)]
    exact x.own

/-- A new map. -/
theorem Rel.newMap (r : Rel F m h w) : Rel F (m.addM h.length w.heap.size) (h ++ [.map [] 0]) (w.alloc (.map #[] 0)) ∧ Ext F m F (m.addM h.length w.heap.size) := by
  have he : Ext F m F (m.addM h.length w.heap.size) := Ext.addM r.freshM_none
  have hF : F w.heap.size = none := r.none_at (Nat.le_refl _)
  have hold : ∀ i y, i < h.length → (m.addM h.length w.heap.size).map i = y → m.map i = y := fun i y hi hy => by
    simp only [Mp.addM] at hy
    rw [if_neg (by omega)] at hy
    exact hy
  refine ⟨⟨fun b x hb => heap_alloc_old w _ (r.fz b x hb), fun id k gen els ex hi => ?_, fun id es c hi => ?_, fun i gn hn => ?_, fun i hn => ?_, ?_, ?_⟩, he⟩
  · rcases getElem?_push_row hi with ⟨rfl, h2⟩ | ⟨hlt, h2⟩
    · cases h2
    · obtain ⟨g, C, t, cur, x⟩ := r.row id k gen els ex h2
      exact ⟨g, C, t, cur, ⟨x.mp, x.pos, heap_alloc_old w _ x.heap, x.own, x.size, x.len, x.exact, x.ty, x.most, x.all, x.cells.mono he, x.gens⟩⟩
  · rcases getElem?_push_row hi with ⟨rfl, h2⟩ | ⟨hlt, h2⟩
    · injection h2 with a1 a2
      subst a1; subst a2
      exact ⟨w.heap.size, #[], ⟨by simp [Mp.addM], heap_alloc_self w _, hF, by simp [EntR]⟩⟩
    · obtain ⟨g, ents, x⟩ := r.map id es c h2
      exact ⟨g, ents, ⟨he.map _ _ x.mp, heap_alloc_old w _ x.heap, x.own, x.ents.mono he⟩⟩
  · have := r.fresh i gn hn
    simp; omega
  · by_cases e : i = h.length
    · simp [e]
    · simp only [Mp.addM, if_neg e] at hn
      have := r.freshM i hn
      simp; omega
  · intro id1 id2 k1 gen1 els1 ex1 k2 gen2 els2 ex2 gg C1 C2 r1 r2 h1 h2 h3 h4
    rcases getElem?_push_row h1 with ⟨rfl, e1⟩ | ⟨hl1, e1⟩
    · cases e1
    · rcases getElem?_push_row h2 with ⟨rfl, e2⟩ | ⟨hl2, e2⟩
      · cases e2
      · exact r.inj _ _ _ _ _ _ _ _ _ _ _ _ _ _ _ e1 e2 h3 h4
  · intro id1 id2 es1 c1 es2 c2 gg h1 h2 h3 h4
    rcases getElem?_push_row h1 with ⟨rfl, e1⟩ | ⟨hl1, e1⟩ <;> rcases getElem?_push_row h2 with ⟨rfl, e2⟩ | ⟨hl2, e2⟩
    · rfl
    · obtain ⟨g, ents, x⟩ := r.map _ _ _ e2
      have h4' := hold _ _ hl2 h4
      have h5 := x.mp
      rw [h4'] at h5
      injection h5 with h5
      simp [Mp.addM] at h3
      have := (Array.getElem?_eq_some_iff.1 x.heap).1
      omega
    · obtain ⟨g, ents, x⟩ := r.map _ _ _ e1
      have h3' := hold _ _ hl1 h3
      have h5 := x.mp
      rw [h3'] at h5
      injection h5 with h5
      simp [Mp.addM] at h4
      have := (Array.getElem?_eq_some_iff.1 x.heap).1
      omega
    · exact r.injM _ _ _ _ _ _ _ e1 e2 (hold _ _ hl1 h3) (hold _ _ hl2 h4)

/-! ### Strings and bytes -/
theorem CL_bytes : ∀ l : List UInt8, CL F m (ofBytes l) (l.map fun b => Value.int .u8 b.toNat)
  | [] => by simp [ofBytes, CL]
  | b :: l => by
    simp only [ofBytes, List.map_cons, CL]
    exact ⟨.int .u8 b.toNat, _, by simp [VRel, free], rfl, CL_bytes l, by simp [Value.cells]⟩

theorem allK_bytes : ∀ l : List UInt8, allK 1 (ofBytes l) = true
  | [] => rfl
  | b :: l => by
    have := allK_bytes l
    simp only [ofBytes] at this
    simp [ofBytes, allK, leafs, this]

theorem freeze_alloc (w : World) (c : Array Value) (e : TypeId) (n : Nat) : (w.alloc (.cells c e)).freeze ⟨w.heap.size, n, none⟩ 1 = w.alloc (.cells c e (n, n + 1)) := by
  unfold World.freeze World.alloc
  simp only [Nat.one_ne_zero, if_false]
  congr 1
  apply Array.ext
  · simp
  · intro i h1 h2
    simp only [Array.getElem_modify, Array.getElem_push]
    by_cases hi : i < w.heap.size
    · simp [hi, show ¬ w.heap.size = i by omega]
    · have : i = w.heap.size := by simp at h2; omega
      subst this
      simp

theorem toBytes_run (r : Rel F m h w) {s t e : TypeId} {b : ByteArray} (hs : P.underlying s = some .string) (ht : P.underlying t = some (.slice e)) (he : P.underlying e = some (.int .u8)) :
    ∃ v w' F', (convert s t (.string b)).run P w = .ok v w' ∧ Ext F m F' m ∧ VRel F' m (.lit 1 false (ofBytes b.data.toList)) v ∧ Rel F' m h w' ∧ Same w w' := by
  have hcap := grownCap_ge w b.size 0 e
  generalize hC : grownCap w b.size 0 e = C at hcap
  let cells : Array Value := (b.data.map fun x => Value.int .u8 x.toNat) ++ Array.replicate (C - b.size) (.int .u8 0)
  obtain ⟨r', e'⟩ := (r.of_heap (w' := w.drew) rfl).frozenBlock (.cells cells e (cells.size, cells.size + 1))
  refine ⟨.slice (some ⟨w.heap.size, 0, none⟩) b.size C, w.drew.alloc (.cells cells e (cells.size, cells.size + 1)), _, ?_, e', ?_, r', ⟨rfl, rfl, rfl, by simp⟩⟩
  · have h1 : (convert s t (.string b)).run P w = (Conv.stringToBytes e b).run P w := by
      simp [-bind_pure_comp, convert, run_underlying hs, run_underlying ht, run_underlying he]
    rw [h1]
    have hch : (choose (.appendCap b.size 0 e)).run P w = .ok C w.drew := by
      rw [← hC]; simp [grownCap, Question.forced]
    have hsh : (w.drew.alloc (.cells cells e)).shape? w.heap.size = some (e, cells.size) := by
      have := heap_alloc_self w.drew (.cells cells e)
      simp only [World.shape?]
      rw [show w.heap.size = w.drew.heap.size from rfl, this]
    have hfz := freeze_alloc w.drew cells e cells.size
    simp only [Conv.stringToBytes, Sem.run_bind, hch, Result.andThen_ok, Go.newRow, run_newObj, Sem.run_pure, markStringish, run_shape, World.alloc_eq]
    rw [show (w.drew.alloc (.cells ((b.data.map fun x => Value.int .u8 x.toNat) ++ Array.replicate (C - b.size) (.int .u8 0)) e)).shape? w.drew.heap.size = some (e, cells.size) from hsh]
    simp only [run_freeze, Result.andThen_ok, Sem.run_bind, Sem.run_pure]
    exact congrArg _ hfz
  · simp only [VRel]
    refine ⟨⟨w.heap.size, 0, none⟩, C, _, CL_bytes _, allK_bytes _, fun j v hj => ?_, rfl, by simp [ofBytes]; exact hcap, by simp, by simp [ofBytes]⟩
    refine ⟨cells, e, (cells.size, cells.size + 1), by simp [Fz.add], ?_⟩
    have hjl := lt_of_getElem? hj
    simp only [List.length_map] at hjl
    simp only [Nat.zero_add, cells]
    rw [Array.getElem?_append_left (by simpa using hjl)]
    simpa using hj

theorem bytesL_rel : ∀ {l : List AV} {bs : List UInt8} {cs : List Value}, bytesL l = some bs → CL F m l cs →
    ∃ xs : List Int, cs = xs.map (Value.int .u8) ∧ bs = xs.map (fun n => UInt8.ofNat n.toNat) ∧ xs.length = l.length
  | [], bs, cs, hb, hc => by
    simp only [CL] at hc
    simp only [bytesL, Option.some.injEq] at hb
    subst hb; subst hc
    exact ⟨[], rfl, rfl, rfl⟩
  | x :: l, bs, cs, hb, hc => by
    simp only [CL] at hc
    obtain ⟨y, ds, h1, h2, h3, rfl⟩ := hc
    simp only [bytesL] at hb
    cases hx : byteOf? x with
    | none => simp [hx] at hb
    | some b0 =>
      cases hl : bytesL l with
      | none => simp [hx, hl] at hb
      | some bs' =>
        simp only [hx, hl, Option.some.injEq] at hb
        subst hb
        obtain ⟨xs, g1, g2, g3⟩ := bytesL_rel hl h3
        unfold byteOf? at hx
        split at hx
        · rename_i n
          injection hx with hx
          subst hx
          simp only [VRel] at h1
          obtain ⟨_, rfl⟩ := h1
          exact ⟨n :: xs, by simp [Value.cells, g1], by simp [g2], by simp [g3]⟩
        · cases hx

theorem strOf_els (r : Rel F m h w) {x : AV} {b : ByteArray} {v : Value} {l : List AV} {k : Nat} (he : elsOf h x = some (k, l)) (hs : strOf h x = some b) (hv : VRel F m x v) :
    ∃ ad cap xs, v = .slice (some ad) l.length cap ∧ ad.spot = none ∧ (xs : List Int).length = l.length ∧ b = strOfNums xs ∧ (∀ i, i < l.length → w.cell? ⟨ad.block, ad.off + i, none⟩ = some (.int .u8 (xs.getD i 0))) := by
  have hs' : (bif Nat.beq k 1 then match bytesL l with | some bs => some (⟨bs.toArray⟩ : ByteArray) | none => none else none) = some b := by
    cases x <;> first | (simp [elsOf] at he; done) | (simp only [strOf, he] at hs; exact hs)
  obtain ⟨ad, cap, cs, els⟩ := elsOf_rel r he hv
  cases hk : Nat.beq k 1 with
  | false => simp [hk] at hs'
  | true =>
    simp only [hk, cond_true] at hs'
    cases hb : bytesL l with
    | none => simp [hb] at hs'
    | some bs =>
      simp only [hb, Option.some.injEq] at hs'
      subst hs'
      obtain ⟨xs, g1, g2, g3⟩ := bytesL_rel hb els.cells
      refine ⟨ad, cap, xs, els.val, els.spot, g3, by rw [g2]; rfl, fun i hi => ?_⟩
      have := els.mem i (.int .u8 (xs.getD i 0)) (by rw [g1]; simp [List.getElem?_eq_getElem (show i < xs.length by omega), List.getD_eq_getElem?_getD])
      rwa [add_any els.spot] at this

theorem toString_run (r : Rel F m h w) {s t e : TypeId} {x : AV} {b : ByteArray} {v : Value} (hs : P.underlying s = some (.slice e)) (ht : P.underlying t = some .string) (he : P.underlying e = some (.int .u8))
    (hb : strOf h x = some b) (hv : VRel F m x v) : (convert s t v).run P w = .ok (.string b) w := by
  cases hx : elsOf h x with
  | some q =>
    obtain ⟨k, l⟩ := q
    obtain ⟨ad, cap, xs, rfl, hsp, g3, rfl, hm⟩ := strOf_els r hx hb hv
    obtain ⟨bl, o, s0⟩ := ad
    simp only at hsp
    subst hsp
    exact run_convert_bytes_arg w s e hs he bl o l.length cap xs g3 hm t ht
  | none =>
    cases x with
    | v y =>
      simp only [VRel] at hv
      obtain ⟨_, rfl⟩ := hv
      unfold strOf at hb
      split at hb
      · rename_i heq
        injection heq with heq
        subst heq
        injection hb with hb
        subst hb
        exact run_convert_bytes_nil w s e hs he 0 0 t ht
      · rename_i s0 heq
        injection heq with heq
        subst heq
        injection hb with hb
        subst hb
        simp [-bind_pure_comp, convert, run_underlying hs, run_underlying ht]
      · simp [hx] at hb
    | _ => simp [strOf, hx] at hb

/-! ### Rows made -/
theorem buildSlice_base {E : Env} (hE : E.ZerosOK) {e : TypeId} {len k : Nat} {zs : List AV} (hk : szOf E.P e = some k) (h1 : 1 ≤ k)
    (hz : baseE E e len k = some zs) (w : World) :
    ∃ zc : Array Value, ((len * k = 0 ∧ zc = #[]) ∨ (len * k ≠ 0 ∧ ∃ v, (zeroValue e).run E.P w = .ok v w ∧ zc = v.cells)) ∧
      CL F m zs ((Array.range (len * k)).map (zc[· % zc.size]!)).toList ∧ zs.length = len ∧ allK k zs = true := by
  unfold baseE at hz
  cases hl : Nat.beq len 0 with
  | true =>
    have hl0 : len = 0 := Nat.eq_of_beq_eq_true hl
    subst hl0
    simp at hz
    subst hz
    exact ⟨#[], .inl ⟨by simp, rfl⟩, by simp [CL], rfl, rfl⟩
  | false =>
    have hl0 : len ≠ 0 := fun e => by subst e; simp at hl
    simp only [hl, cond_false] at hz
    cases hz0 : E.zero e with
    | none => simp [hz0] at hz
    | some z =>
      simp only [hz0] at hz
      cases hb : Nat.beq (leafs z) k with
      | false => simp [hb] at hz
      | true =>
        simp only [hb, cond_true, Option.some.injEq] at hz
        subst hz
        have hkz : leafs z = k := Nat.eq_of_beq_eq_true hb
        obtain ⟨v, v1, v2, v3, v4⟩ := zero_run (F := F) (m := m) hE hz0 w
        refine ⟨v.cells, ?_, ?_, by simp, allK_replicate hkz⟩
        · have hpos : len * k ≠ 0 := fun e0 => by rcases Nat.mul_eq_zero.1 e0 with h | h <;> omega
          exact .inr ⟨hpos, v, v1, rfl⟩
        · rw [range_mod v.cells k (by rw [v4, hkz]) (by omega)]
          exact CL_replicate v2 v3 len

theorem len_of_CL {l : List AV} {cs : List Value} {k : Nat} (hc : CL F m l cs) (hk : allK k l = true) : cs.length = l.length * k := by rw [CL.size _ _ hc, allK_leafs hk]

theorem allK_putL {k : Nat} {y : AV} : ∀ {z z' : List AV} {i off : Nat}, allK k z = true → putL z i [] off y = some z' → allK k z' = true ∧ z'.length = z.length
  | [], z', i, off, _, hp => by simp [putL] at hp
  | x :: l, z', 0, off, hk, hp => by
    simp [allK] at hk
    simp only [putL] at hp
    cases hput : put x [] off y with
    | none => simp [hput] at hp
    | some x' =>
      simp only [hput, Option.some.injEq] at hp
      subst hp
      have : (bif Nat.beq off 0 && Nat.beq (leafs x) (leafs y) then some y else none) = some x' := by cases x <;> simpa [put] using hput
      cases hb : (Nat.beq off 0 && Nat.beq (leafs x) (leafs y)) with
      | false => simp [hb] at this
      | true =>
        simp only [hb, cond_true, Option.some.injEq] at this
        subst this
        rw [Bool.and_eq_true] at hb
        have : leafs x = leafs y := Nat.eq_of_beq_eq_true hb.2
        simp [allK, hk.2, ← this, hk.1]
  | x :: l, z', i + 1, off, hk, hp => by
    simp [allK] at hk
    simp only [putL] at hp
    cases hb : Nat.ble (leafs x) off with
    | false => simp [hb] at hp
    | true =>
      simp only [hb, cond_true] at hp
      cases hput : putL l i [] (off - leafs x) y with
      | none => simp [hput] at hp
      | some l' =>
        simp only [hput, Option.some.injEq] at hp
        subst hp
        obtain ⟨g1, g2⟩ := allK_putL hk.2 hput
        simp [allK, hk.1, g1, g2]

theorem allK_setParts {k : Nat} {pl : Nat → Option (Nat × Nat)} : ∀ {qs : List (Nat × AV)} {z z' : List AV}, allK k z = true → setParts pl z qs = some z' → allK k z' = true ∧ z'.length = z.length
  | [], z, z', hk, hs => by
    simp only [setParts, Option.some.injEq] at hs
    subst hs
    exact ⟨hk, rfl⟩
  | (i, y) :: qs, z, z', hk, hs => by
    simp only [setParts] at hs
    cases hpl : pl i with
    | none => simp [hpl] at hs
    | some q =>
      obtain ⟨off, sz⟩ := q
      simp only [hpl] at hs
      cases hb : (Nat.beq (leafs y) sz && !isTupA y) with
      | false => simp [hb] at hs
      | true =>
        simp only [hb, cond_true] at hs
        cases hput : putL z i [] off y with
        | none => simp [hput] at hs
        | some z1 =>
          simp only [hput] at hs
          obtain ⟨g1, g2⟩ := allK_putL hk hput
          obtain ⟨g3, g4⟩ := allK_setParts g1 hs
          exact ⟨g3, by rw [g4, g2]⟩

theorem buildSlice_run {E : Env} (hE : E.ZerosOK) (r : Rel F m h w) {t e : TypeId} {len k : Nat} {zs l : List AV} {qs : List (Nat × AV)} {ps : Array (Nat × Value)} (ht : E.P.underlying t = some (.slice e)) (hk : szOf E.P e = some k)
    (hz : baseE E e len k = some zs)
    (hsp : setParts (fun i => some (i * k, k)) zs qs = some l) (hb : (Nat.ble (len * k) 16777216 && Nat.ble 1 k) = true) (hp : PL F m qs ps.toList) :
    ∃ cs : List Value, (Instr.buildSlice t len ps).run E.P w = .ok (.slice (some ⟨w.heap.size, 0, none⟩) len len) (w.alloc (.cells cs.toArray e)) ∧ CL F m l cs ∧ allK k l = true ∧ l.length = len ∧ 1 ≤ k ∧ len * k ≤ 16777216 := by
  rw [Bool.and_eq_true] at hb
  have hb1 : len * k ≤ 16777216 := Nat.le_of_ble_eq_true hb.1
  have hb2 : 1 ≤ k := Nat.le_of_ble_eq_true hb.2
  obtain ⟨zc, z1, z2, z3, z4⟩ := buildSlice_base (F := F) (m := m) hE hk hb2 hz w
  obtain ⟨cs, f1, f2⟩ := fill_run hsp z2 hp
  obtain ⟨g1, g2⟩ := allK_setParts z4 hsp
  refine ⟨cs, ?_, f2, g1, by rw [g2, z3], hb2, hb1⟩
  rw [Array.toArray_toList] at f1
  have hno : ¬ len * k > 2 ^ 24 := by omega
  unfold Instr.buildSlice
  simp only [Sem.run_bind, run_underlying ht, Result.andThen_ok, szOf_run hk]
  rw [if_neg hno]
  rcases z1 with ⟨hlk, rfl⟩ | ⟨hlk, v, hv, rfl⟩
  · rw [if_pos hlk]
    simp only [Sem.run_bind, Sem.run_pure, Result.andThen_ok, f1, Go.newRow, run_newObj, World.alloc_eq]
  · rw [if_neg hlk]
    simp only [Sem.run_bind, hv, Sem.run_pure, Result.andThen_ok, f1, Go.newRow, run_newObj, World.alloc_eq]

theorem makeSlice_run {E : Env} (hE : E.ZerosOK) (r : Rel F m h w) {t e : TypeId} {z : AV} {kn kc : IntKind} {n : Int} (ht : E.P.underlying t = some (.slice e)) (hz : E.zero e = some z) (h0 : 0 ≤ n)
    (hby : n * (((E.P.info? e).map (·.bytes)).getD 0 : Nat) ≤ 140737488355328) (h1 : 1 ≤ leafs z) (hn : n ≤ 140737488355328) (hsi0 : szOf E.P e = some (leafs z)) :
    ∃ cs : List Value, (Instr.makeSlice t (.int kn n) (.int kc n)).run E.P w = .ok (.slice (some ⟨w.heap.size, 0, none⟩) n.toNat n.toNat) (w.alloc (.cells cs.toArray e)) ∧ CL F m (List.replicate n.toNat z) cs := by
  obtain ⟨i, v, i1, i2, i3⟩ := hE e z hz
  obtain ⟨g1, g2⟩ := toV_self (F := F) (m := m) z v i3
  have hsz := VRel.size z v g1 g2
  have hw : IntKind.i64.wrap n = n := IntWalk.i64_in n (by omega)
  simp only [i1, Option.map_some, Option.getD_some] at hby
  have hzr : (zeroValue e).run E.P w = .ok v w := by simp [zeroValue, typeInfo, i1, i2]
  have hsi : i.size = leafs z := by simpa [szOf, i1] using hsi0
  have hti : (typeInfo e).run E.P w = .ok i w := by simp [typeInfo, i1]
  have hcomm : (i.bytes : Int) * n = n * (i.bytes : Int) := Int.mul_comm _ _
  have hbig : (decide (n < 0) || decide ((i.bytes : Int) * n > 2 ^ 48)) = false := by
    rw [hcomm]
    have : ¬ n * (i.bytes : Int) > 2 ^ 48 := by omega
    simp [this]; omega
  have hc : ((decide (n < 0) || decide ((i.bytes : Int) * n > 2 ^ 48)) || decide (n < 0) || decide (n > n)) = false := by
    rw [hbig]; simp; omega
  have hsize : (sizeOf e).run E.P w = .ok i.size w := by simp [sizeOf, typeInfo, i1]
  have hL : (List.replicate n.toNat v.cells.toList).flatten.length = n.toNat * leafs z := by simp [hsz]
  refine ⟨(List.replicate n.toNat v.cells.toList).flatten, ?_, CL_replicate g1 g2 n.toNat⟩
  have hcells : i.size = leafs z → ∀ zc : Array Value, ((n.toNat * i.size = 0 ∧ zc = #[]) ∨ (n.toNat * i.size ≠ 0 ∧ zc = v.cells)) → (Array.range (n.toNat * i.size)).map (zc[· % zc.size]!) = (List.replicate n.toNat v.cells.toList).flatten.toArray := by
    intro hi zc hzc
    apply Array.toList_inj.1
    rcases hzc with ⟨h2, rfl⟩ | ⟨h2, rfl⟩
    · have hn0 : n.toNat = 0 := by rcases Nat.mul_eq_zero.1 h2 with h | h <;> omega
      simp [hn0]
    · rw [hi]
      exact range_mod v.cells (leafs z) hsz (by omega) n.toNat
  unfold Instr.makeSlice
  simp only [Sem.run_bind, run_underlying ht, Result.andThen_ok, asInt, asIntOf, Sem.run_pure, hti, hw]
  rw [if_neg (by rw [hc]; simp)]
  simp only [Sem.run_bind, run_askRoom, Result.andThen_ok, hsize]
  by_cases h0 : n.toNat * i.size = 0
  · rw [if_pos h0]
    simp only [Sem.run_bind, Sem.run_pure, Result.andThen_ok, Go.newRow, run_newObj, World.alloc_eq, hcells hsi #[] (.inl ⟨h0, rfl⟩)]
  · rw [if_neg h0]
    simp only [Sem.run_bind, hzr, Sem.run_pure, Result.andThen_ok, Go.newRow, run_newObj, World.alloc_eq, hcells hsi v.cells (.inr ⟨h0, rfl⟩)]

/-! ### Pointers told as others -/
theorem placeE_rel (r : Rel F m h w) {id gen i o : Nat} {p : List Nat} {v : Value} {e : TypeId} {c off : Nat} (hp : placeE P h id gen i o = some (e, c, off)) (hv : VRel F m (.ptr id gen i p o) v) :
    ∃ g C cur fz, v = .pointer (some ⟨g, off, none⟩) ∧ w.heap[g]? = some (.cells cur e fz) ∧ c ≤ C ∧ cur.size = C * P.cellsOf e ∧ 0 < P.cellsOf e ∧ off < cur.size := by
  unfold placeE at hp
  split at hp
  · rename_i k g0 els ex hr
    cases hb : (Nat.beq g0 gen && Nat.blt i els.length && Nat.blt o k && Nat.beq (P.cellsOf ex.ty) k) with
    | false => simp [hb] at hp
    | true =>
      simp only [hb, cond_true, Option.some.injEq, Prod.mk.injEq] at hp
      obtain ⟨rfl, rfl, rfl⟩ := hp
      simp only [Bool.and_eq_true] at hb
      obtain ⟨⟨⟨b1, b2⟩, b3⟩, b4⟩ := hb
      have e1 := Nat.eq_of_beq_eq_true b1
      subst e1
      have hi : i < els.length := by simpa [Nat.blt_eq] using b2
      have ho : o < k := by simpa [Nat.blt_eq] using b3
      have hk := Nat.eq_of_beq_eq_true b4
      simp only [VRel] at hv
      obtain ⟨g, C, k1, h1, rfl⟩ := hv
      obtain ⟨g2, C2, e2, cur, xr⟩ := r.row _ _ _ _ _ hr
      have hm := xr.mp
      rw [h1] at hm
      injection hm with hm
      injection hm with hm1 hm2
      injection hm2 with hm2 hm3
      subst hm1; subst hm2; subst hm3
      have hl := xr.len
      have hmul : (i + 1) * k1 ≤ C * k1 := Nat.mul_le_mul_right _ (by omega)
      rw [Nat.add_mul, Nat.one_mul] at hmul
      refine ⟨g, C, cur, (0, 0), rfl, by rw [← xr.ty]; exact xr.heap, hl, by rw [hk]; exact xr.size, by omega, by rw [xr.size]; omega⟩
  · cases hp

theorem viewAt_cells {g : Nat} {c : Array Value} {e : TypeId} {fz : Nat × Nat} (hg : w.heap[g]? = some (.cells c e fz)) : (viewAt g).run P w = .ok none w := by
  simp [viewAt, World.shape?, hg]

theorem seenAt_cells {a : Addr} {c : Array Value} {e : TypeId} {fz : Nat × Nat} (hg : w.heap[a.block]? = some (.cells c e fz)) : (Conv.seenAt a).run P w = .ok a w := by
  unfold Conv.seenAt
  simp [-bind_pure_comp, viewAt_cells hg]

theorem rowAt_mono (fits : TypeId → Bool) : ∀ (d : Nat) (e : TypeId) (c C off n : Nat), c ≤ C → rowAt P fits d e c off n = true → rowAt P fits d e C off n = true
  | 0, _, _, _, _, _, _, h => by simp [rowAt] at h
  | d + 1, e, c, C, off, n, hc, h => by
    unfold rowAt at h ⊢
    by_cases hs : P.cellsOf e = 0
    · simp [hs] at h
    · simp only [hs, if_false, Bool.or_eq_true, Bool.and_eq_true, decide_eq_true_eq] at h ⊢
      rcases h with ⟨⟨h1, h2⟩, h3⟩ | ⟨h1, h2⟩
      · exact .inl ⟨⟨h1, by omega⟩, h3⟩
      · exact .inr ⟨by omega, h2⟩

theorem liesAt_mono : ∀ (d : Nat) (e : TypeId) (c C off : Nat) (u : TypeId) (n : Nat), c ≤ C → liesAt P d e c off u n = true → liesAt P d e C off u n = true
  | 0, _, _, _, _, _, _, _, h => by simp [liesAt] at h
  | d + 1, e, c, C, off, u, n, hc, h => by
    unfold liesAt at h ⊢
    simp only [Bool.or_eq_true] at h ⊢
    rcases h with h | h
    · exact .inl (rowAt_mono _ _ _ _ _ _ _ hc h)
    · right
      split at h
      · exact liesAt_mono d e c C off _ _ hc h
      · cases h

theorem variablesAt_cells {a : Addr} {c : Array Value} {e : TypeId} {fz : Nat × Nat} {C k : Nat} (hg : w.heap[a.block]? = some (.cells c e fz)) (hs : c.size = C * P.cellsOf e) (hp : 0 < P.cellsOf e) (hk : k ≤ C) {u : TypeId} {n : Nat} (hl : liesAt P P.depth e k a.off u n = true) :
    (variablesAt a u n).run P w = .ok true w := by
  have hd : c.size / P.cellsOf e = C := by rw [hs, Nat.mul_div_cancel _ hp]
  unfold variablesAt
  simp [-bind_pure_comp, World.shape?, hg, hd, liesAt_mono _ _ _ _ _ _ _ hk hl]

theorem convPtr_run (r : Rel F m h w) {s t : TypeId} {x y : AV} {v : Value} (hc : convPtr P h s t x = some y) (hv : VRel F m x v) : (convert s t v).run P w = .ok v w ∧ VRel F m y v := by
  unfold convPtr at hc
  split at hc
  · rename_i d id gen i p o hs ht
    split at hc
    · rename_i q n hp hz
      obtain ⟨e, c, off⟩ := q
      cases hb : Nat.ble 1 n with
      | false => simp [hb] at hc
      | true =>
        simp only [hb, cond_true, Option.some.injEq] at hc
        subst hc
        refine ⟨?_, hv⟩
        obtain ⟨g, C, cur, fz, rfl, h1, h2, h3, h4, h5⟩ := placeE_rel r hp hv
        have hn0 : n ≠ 0 := by have := Nat.le_of_ble_eq_true hb; omega
        have hnot : ¬ cur.size ≤ off := by omega
        simp [-bind_pure_comp, convert, run_underlying hs, run_underlying ht, Conv.unsafePointer, seenAt_cells (P := P) (a := ⟨g, off, none⟩) h1, cellsIn, World.shape?, h1, szOf_run hz, hn0, hnot]
    · cases hc
  · rename_i u id gen i p o hs ht
    split at hc
    · rename_i e c off n hp hz
      cases hb0 : (Nat.ble 1 n && liesAt P P.depth e c off u 1) with
      | false => simp [hb0] at hc
      | true =>
        simp only [hb0, cond_true, Option.some.injEq] at hc
        subst hc
        rw [Bool.and_eq_true] at hb0
        obtain ⟨hb1, hb⟩ := hb0
        have hn0 : n ≠ 0 := by have := Nat.le_of_ble_eq_true hb1; omega
        refine ⟨?_, hv⟩
        obtain ⟨g, C, cur, fz, rfl, h1, h2, h3, h4, h5⟩ := placeE_rel r hp hv
        have hva := variablesAt_cells (P := P) (a := ⟨g, off, none⟩) (u := u) (n := 1) h1 h3 h4 h2 hb
        simp [-bind_pure_comp, convert, run_underlying hs, run_underlying ht, Conv.unsafePointer, seenAt_cells (P := P) (a := ⟨g, off, none⟩) h1, szOf_run hz, hn0, hva]
    · cases hc
  · cases hc

end Go.AM
