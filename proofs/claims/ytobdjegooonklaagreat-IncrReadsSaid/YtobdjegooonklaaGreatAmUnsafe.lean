/- A slice's bytes told as a string. Conditions: none. -/
import Derived.Test.YtobdjegooonklaaGreatAmMaps
import Derived.Lib.UnsafeStr
set_option linter.unusedVariables false
set_option linter.unusedSimpArgs false
namespace Go.AM
open Go

variable {F : Fz} {m : Mp} {fr : FR} {a : Act} {h : Heap} {w : World} {P : Program}

/-- A row that is told no more. -/
theorem Rel.kill (r : Rel F m h w) {id : Nat} {w' : World} {k gen : Nat} {els : List AV} {ex : Tag} {g C : Nat} {e : TypeId} {cur : Array Value} (hi : h[id]? = some (.row k gen els ex)) (x : RowR F m w id k gen els ex g C e cur)
    (hw : ∀ b, b ≠ g → w'.heap[b]? = w.heap[b]?) : Rel F m (h.set id .dead) w' := by
  refine ⟨fun b o hb => ?_, fun id1 k1 gen1 els1 ex1 h1 => ?_, fun id1 es c h1 => ?_, fun i gn hn => by simpa using r.fresh i gn hn, fun i hn => by simpa using r.freshM i hn, ?_, ?_⟩
  · rw [hw b (fun hbg => by subst hbg; rw [x.own] at hb; cases hb)]
    exact r.fz b o hb
  · rcases getElem?_set_row h1 with ⟨rfl, h2⟩ | ⟨hne, h2⟩
    · cases h2
    · obtain ⟨g1, C1, e1, cur1, y⟩ := r.row _ _ _ _ _ h2
      have hg : g1 ≠ g := fun hg => hne (by subst hg; exact r.inj id1 id _ _ _ _ _ _ _ _ _ _ _ _ _ h2 hi y.mp x.mp)
      exact ⟨g1, C1, e1, cur1, ⟨y.mp, y.pos, by rw [hw g1 hg]; exact y.heap, y.own, y.size, y.len, y.exact, y.ty, y.most, y.all, y.cells, y.gens⟩⟩
  · rcases getElem?_set_row h1 with ⟨rfl, h2⟩ | ⟨hne, h2⟩
    · cases h2
    · obtain ⟨g1, ents, y⟩ := r.map _ _ _ h2
      have hg : g1 ≠ g := fun hg => by subst hg; have := x.heap; rw [y.heap] at this; cases this
      exact ⟨g1, ents, ⟨y.mp, by rw [hw g1 hg]; exact y.heap, y.own, y.ents⟩⟩
  · intro id1 id2 k1 gen1 els1 ex1 k2 gen2 els2 ex2 gg C1 C2 r1 r2 h1 h2 h3 h4
    rcases getElem?_set_row h1 with ⟨rfl, e1⟩ | ⟨hne1, e1⟩
    · cases e1
    · rcases getElem?_set_row h2 with ⟨rfl, e2⟩ | ⟨hne2, e2⟩
      · cases e2
      · exact r.inj _ _ _ _ _ _ _ _ _ _ _ _ _ _ _ e1 e2 h3 h4
  · intro id1 id2 es c es' c' g1 h1 h2 h3 h4
    rcases getElem?_set_row h1 with ⟨rfl, e1⟩ | ⟨hne1, e1⟩
    · cases e1
    · rcases getElem?_set_row h2 with ⟨rfl, e2⟩ | ⟨hne2, e2⟩
      · cases e2
      · exact r.injM _ _ _ _ _ _ _ e1 e2 h3 h4

theorem freeze_other (w : World) (a : Addr) (n b : Nat) (hb : b ≠ a.block) : (w.freeze a n).heap[b]? = w.heap[b]? := by
  unfold World.freeze
  split
  · rfl
  · simp [Array.getElem?_modify, Ne.symm hb]

theorem same_freeze (w : World) (a : Addr) (n : Nat) : Same w (w.freeze a n) := by
  unfold World.freeze
  split
  · exact Same.refl _
  · exact ⟨rfl, rfl, rfl, by simp, Nat.le_refl _⟩

theorem sliceDataE_sound (r : Rel F m h w) {x y : AV} {xv : Value} {h' : Heap} {s : Option (Nat × Bool)} {c : Cl} (ho : sliceDataE h x = some (y, h', s, c)) (hx : VRel F m x xv) (ts : Array TypeId) (ty : TypeId) :
    GoodV P F m w y h' (Builtin.unsafeSliceData_ ts ty #[xv]) := by
  unfold sliceDataE at ho
  split at ho
  · simp only [Option.some.injEq, Prod.mk.injEq] at ho
    obtain ⟨rfl, rfl, rfl, rfl⟩ := ho
    simp only [VRel] at hx
    obtain ⟨_, rfl⟩ := hx
    exact GoodV.val r (Lib.run_unsafeSliceData_nil w ts ty 0 0) (by simp [VRel, free])
  · rename_i id gen off len
    split at ho
    · rename_i k g els ex hr
      cases hb : (Nat.beq g gen && Nat.blt off els.length) with
      | false => simp [hb] at ho
      | true =>
        simp only [hb, cond_true, Option.some.injEq, Prod.mk.injEq] at ho
        obtain ⟨rfl, rfl, rfl, rfl⟩ := ho
        rw [Bool.and_eq_true] at hb
        have e1 := Nat.eq_of_beq_eq_true hb.1
        subst e1
        have hoff : off < els.length := by simpa [Nat.blt_eq] using hb.2
        obtain ⟨gb, C, e, cur, ad, xr, g1, g2, g3, g4, rfl⟩ := sl_row r hx hr
        have hl := xr.len
        refine GoodV.val r (Lib.run_unsafeSliceData_row w ts ty ad len (C - off) (by omega)) ?_
        simp only [VRel]
        refine ⟨gb, C, k, xr.mp, ?_⟩
        have h4 := g4 (by omega)
        obtain ⟨bl, o, sp⟩ := ad
        simp only at g2 g3 h4
        subst g2; subst g3; subst h4
        rfl
    · cases ho
  · cases ho

theorem bytesOK_rel : ∀ {l : List AV} {bs : List UInt8} {cs : List Value}, bytesOK l = true → bytesL l = some bs → CL F m l cs → cs = bs.map (fun b => Value.int .u8 b.toNat) ∧ bs.length = l.length
  | [], bs, cs, _, hb, hc => by
    simp only [CL] at hc
    simp only [bytesL, Option.some.injEq] at hb
    subst hb; subst hc
    exact ⟨rfl, rfl⟩
  | x :: l, bs, cs, ho, hb, hc => by
    simp only [CL] at hc
    obtain ⟨y, ds, h1, h2, h3, rfl⟩ := hc
    unfold bytesOK at ho
    split at ho
    · rename_i heq
      cases heq
    · rename_i n l' heq
      injection heq with e1 e2
      subst e1; subst e2
      simp only [Bool.and_eq_true, decide_eq_true_eq] at ho
      obtain ⟨⟨n0, n1⟩, ho⟩ := ho
      simp only [bytesL, byteOf?] at hb
      cases hl : bytesL l with
      | none => simp [hl] at hb
      | some bs' =>
        simp only [hl, Option.some.injEq] at hb
        subst hb
        obtain ⟨g1, g2⟩ := bytesOK_rel ho hl h3
        simp only [VRel] at h1
        obtain ⟨_, rfl⟩ := h1
        refine ⟨?_, by simp [g2]⟩
        simp only [Value.cells, List.map_cons, g1, List.cons_append, List.nil_append, List.cons.injEq, and_true, Value.int.injEq, true_and]
        have : n.toNat < 256 := by omega
        simp only [UInt8.toNat_ofNat']
        omega
    · cases ho

theorem unsafeStringE_sound (r : Rel F m h w) {ts : Array TypeId} {x n y : AV} {xv nv : Value} {h' : Heap} {s : Option (Nat × Bool)} {c : Cl} (ho : unsafeStringE P h ts x n = some (y, h', s, c)) (hx : VRel F m x xv) (hn : VRel F m n nv) (ty : TypeId) :
    GoodV P F m w y h' (Builtin.unsafeString_ ts ty #[xv, nv]) := by
  unfold unsafeStringE at ho
  split at ho
  · rename_i pt it n h0
    have hts : ts = #[pt, it] := by rw [← Array.toArray_toList (xs := ts), h0]
    subst hts
    simp only [VRel] at hn
    obtain ⟨_, rfl⟩ := hn
    by_cases hz : n = 0
    · subst hz
      simp only [decide_true, cond_true] at ho
      split at ho
      · simp only [Option.some.injEq, Prod.mk.injEq] at ho
        obtain ⟨rfl, rfl, rfl, rfl⟩ := ho
        simp only [VRel] at hx
        obtain ⟨_, rfl⟩ := hx
        exact GoodV.val r (Lib.run_unsafeString_none w pt it ty _) (by simp [VRel, free])
      · simp only [Option.some.injEq, Prod.mk.injEq] at ho
        obtain ⟨rfl, rfl, rfl, rfl⟩ := ho
        simp only [VRel] at hx
        obtain ⟨g, C, k, _, rfl⟩ := hx
        exact GoodV.val r (Lib.run_unsafeString_none w pt it ty _) (by simp [VRel, free])
      · cases ho
    · simp only [hz, decide_false, cond_false] at ho
      split at ho
      · rename_i id gen u hu
        split at ho
        · rename_i k g els ex hr
          split at ho
          · rename_i bs hbs
            cases hc : (Nat.beq g gen && Nat.beq k 1 && decide (0 ≤ n) && Nat.ble n.toNat els.length && Nat.beq (P.cellsOf ex.ty) 1 && Nat.beq u ex.ty && bytesOK (els.take n.toNat)) with
            | false => simp [hc] at ho
            | true =>
              simp only [hc, cond_true, Option.some.injEq, Prod.mk.injEq] at ho
              obtain ⟨rfl, rfl, rfl, rfl⟩ := ho
              simp only [Bool.and_eq_true, decide_eq_true_eq] at hc
              obtain ⟨⟨⟨⟨⟨⟨c1, c2⟩, c3⟩, c4⟩, c5⟩, c6⟩, c7⟩ := hc
              have e1 := Nat.eq_of_beq_eq_true c1
              have e2 := Nat.eq_of_beq_eq_true c2
              have e4 := Nat.le_of_ble_eq_true c4
              have e5 := Nat.eq_of_beq_eq_true c5
              have e6 := Nat.eq_of_beq_eq_true c6
              subst e1; subst e2; subst e6
              simp only [VRel] at hx
              obtain ⟨gb, C, k1, h1, rfl⟩ := hx
              obtain ⟨g2, C2, e2, cur, xr⟩ := r.row _ _ _ _ _ hr
              have hm := xr.mp
              rw [h1] at hm
              injection hm with hm
              injection hm with hm1 hm2
              injection hm2 with hm2 hm3
              subst hm1; subst hm2; subst hm3
              have hty := xr.ty
              subst hty
              have hcl := CL_take xr.cells xr.all n.toNat
              obtain ⟨q1, q2⟩ := bytesOK_rel c7 hbs hcl
              have hbl : bs.length = n.toNat := by rw [q2]; simp; omega
              have hlen := xr.len
              have hsz := xr.size
              have hrun := Lib.run_unsafeString_row w pt it ty ex.ty hu e5 gb cur.size (by simp [World.shape?, xr.heap]) bs (by intro e0; rw [e0] at hbl; simp at hbl; omega) (by omega) (by have := xr.most; simp only [maxLen] at this; omega) (fun j v hj => by
                have hj2 : (bs.map (fun b => Value.int .u8 b.toNat))[j]? = some (.int .u8 v.toNat) := by simp [hj]
                rw [← q1] at hj2
                rw [List.take_take] at hj2
                simp only [List.getElem?_take] at hj2
                split at hj2
                · rw [add_any rfl]
                  simp only [World.cell?, xr.heap, Nat.zero_add]
                  simpa using hj2
                · cases hj2)
              have hnn : (bs.length : Int) = n := by rw [hbl]; omega
              rw [hnn] at hrun
              simp only [Nat.zero_mul, Nat.add_zero]
              exact ⟨.string ⟨bs.toArray⟩, w.freeze ⟨gb, 0, none⟩ bs.length, F, m, hrun, Ext.refl _ _, by simp [VRel, free], r.kill hr xr fun b hb => freeze_other w _ _ b hb, same_freeze _ _ _⟩
          · cases ho
        · cases ho
      · cases ho
  · cases ho

end Go.AM
