/- append of the abstract machine is that of the real one. Conditions: none. -/
import Derived.Test.YtobdjegooonklaaGreatAmBuilt
set_option linter.unusedVariables false
set_option linter.unusedSimpArgs false
namespace Go.AM
open Go

variable {F : Fz} {m : Mp} {fr : FR} {a : Act} {h : Heap} {w : World} {P : Program}

/-- A row that has grown: its elders' places are no longer told. -/
theorem Rel.regen (r : Rel F m h w) {id k gen : Nat} {els els' : List AV} {ex : Tag} {g C g' C' : Nat} {e : TypeId} {cur cur' : Array Value} {w' : World} (hi : h[id]? = some (.row k gen els ex)) (x : RowR F m w id k gen els ex g C e cur)
    {e' : TypeId} (hne : ∀ b o, w.heap[b]? = some o → b ≠ g' → w'.heap[b]? = some o) (hg : g' = g ∨ w.heap.size ≤ g') (hF : F g' = none) (hh : w'.heap[g']? = some (.cells cur' e' (0, 0))) (hs : cur'.size = C' * k)
    (hl : els'.length ≤ C') (hm : C' ≤ maxLen) (ha : allK k els' = true) (hc : CL F m els' (cur'.toList.take (els'.length * k))) :
    Rel F (m.add id (gen + 1) (g', C', k)) (h.set id (.row k (gen + 1) els' ⟨false, e'⟩)) w' ∧ Ext F m F (m.add id (gen + 1) (g', C', k)) := by
  have hnew : m.row id (gen + 1) = none := by
    cases hq : m.row id (gen + 1) with
    | none => rfl
    | some q => have := x.gens (gen + 1) (by rw [hq]; simp); omega
  have he : Ext F m F (m.add id (gen + 1) (g', C', k)) := Ext.add hnew
  have hidl := lt_of_getElem? hi
  have hother : ∀ id1 k1 gen1 els1 ex1 g1 C1 e1 cur1, id1 ≠ id → h[id1]? = some (.row k1 gen1 els1 ex1) → RowR F m w id1 k1 gen1 els1 ex1 g1 C1 e1 cur1 → g1 ≠ g' := by
    intro id1 k1 gen1 els1 ex1 g1 C1 e1 cur1 hid h1 y hgg
    rcases hg with rfl | hg
    · subst hgg
      exact hid (r.inj _ _ _ _ _ _ _ _ _ _ _ _ _ _ _ h1 hi y.mp x.mp)
    · have := (Array.getElem?_eq_some_iff.1 y.heap).1
      omega
  have hotherM : ∀ id1 es c g1 ents, h[id1]? = some (.map es c) → MapR F m w id1 es c g1 ents → g1 ≠ g' := by
    intro id1 es c g1 ents h1 y hgg
    rcases hg with rfl | hg
    · subst hgg
      have := x.heap
      rw [y.heap] at this
      cases this
    · have := (Array.getElem?_eq_some_iff.1 y.heap).1
      omega
  refine ⟨⟨fun b o hb => hne b o (r.fz b o hb) (fun e0 => by subst e0; rw [hF] at hb; cases hb), fun id1 k1 gen1 els1 ex1 h1 => ?_, fun id1 es c h1 => ?_, fun i gn hn => ?_, fun i hn => by simpa using r.freshM i hn, ?_, ?_⟩, he⟩
  · rcases getElem?_set_row h1 with ⟨rfl, h2⟩ | ⟨hid, h2⟩
    · injection h2 with a1 a2 a3 a4
      subst a1; subst a2; subst a3; subst a4
      refine ⟨g', C', e', cur', ⟨Mp.add_same, x.pos, hh, hF, hs, hl, (fun h => by cases h), rfl, hm, ha, hc.mono he, fun gn hgn => ?_⟩⟩
      by_cases e0 : gn = gen + 1
      · omega
      · rw [Mp.add_other (by omega)] at hgn
        have := x.gens gn hgn
        omega
    · obtain ⟨g1, C1, e1, cur1, y⟩ := r.row _ _ _ _ _ h2
      refine ⟨g1, C1, e1, cur1, ⟨he.row _ _ _ y.mp, y.pos, hne _ _ y.heap (hother _ _ _ _ _ _ _ _ _ hid h2 y), y.own, y.size, y.len, y.exact, y.ty, y.most, y.all, y.cells.mono he, fun gn hgn => y.gens gn ?_⟩⟩
      rw [Mp.add_other (fun e0 => hid e0.1)] at hgn
      exact hgn
  · rcases getElem?_set_row h1 with ⟨rfl, h2⟩ | ⟨hid, h2⟩
    · cases h2
    · obtain ⟨g1, ents, y⟩ := r.map _ _ _ h2
      exact ⟨g1, ents, ⟨he.map _ _ y.mp, hne _ _ y.heap (hotherM _ _ _ _ _ h2 y), y.own, y.ents.mono he⟩⟩
  · by_cases e0 : i = id ∧ gn = gen + 1
    · simp [e0.1]; exact hidl
    · rw [Mp.add_other e0] at hn
      simpa using r.fresh i gn hn
  · intro id1 id2 k1 gen1 els1 ex1 k2 gen2 els2 ex2 gg C1 C2 r1 r2 h1 h2 h3 h4
    rcases getElem?_set_row h1 with ⟨rfl, e1⟩ | ⟨hid1, e1⟩ <;> rcases getElem?_set_row h2 with ⟨rfl, e2⟩ | ⟨hid2, e2⟩
    · rfl
    · injection e1 with a1 a2 a3 a4
      subst a2
      rw [Mp.add_same] at h3
      injection h3 with h3
      injection h3 with h3 _
      rw [Mp.add_other (fun e0 => hid2 e0.1)] at h4
      obtain ⟨g1, C1', e1', cur1, y⟩ := r.row _ _ _ _ _ e2
      have h5 := y.mp
      rw [h4] at h5
      injection h5 with h5
      injection h5 with h5 _
      exact absurd (h5.symm.trans h3.symm) (hother _ _ _ _ _ _ _ _ _ hid2 e2 y)
    · injection e2 with a1 a2 a3 a4
      subst a2
      rw [Mp.add_same] at h4
      injection h4 with h4
      injection h4 with h4 _
      rw [Mp.add_other (fun e0 => hid1 e0.1)] at h3
      obtain ⟨g1, C1', e1', cur1, y⟩ := r.row _ _ _ _ _ e1
      have h5 := y.mp
      rw [h3] at h5
      injection h5 with h5
      injection h5 with h5 _
      exact absurd (h5.symm.trans h4.symm) (hother _ _ _ _ _ _ _ _ _ hid1 e1 y)
    · rw [Mp.add_other (fun e0 => hid1 e0.1)] at h3
      rw [Mp.add_other (fun e0 => hid2 e0.1)] at h4
      exact r.inj _ _ _ _ _ _ _ _ _ _ _ _ _ _ _ e1 e2 h3 h4
  · intro id1 id2 es1 c1 es2 c2 gg h1 h2 h3 h4
    rcases getElem?_set_row h1 with ⟨rfl, e1⟩ | ⟨hid1, e1⟩
    · cases e1
    · rcases getElem?_set_row h2 with ⟨rfl, e2⟩ | ⟨hid2, e2⟩
      · cases e2
      · exact r.injM _ _ _ _ _ _ _ e1 e2 h3 h4

theorem append_ts {ts : Array TypeId} {st xt ty : TypeId} {args : Array Value} (h0 : ts[0]? = some st) (h1 : ts[1]? = some xt) : Builtin.append_ ts ty args = Builtin.append_ #[st, xt] ty args := by
  unfold Builtin.append_
  simp [h0, h1]

def GoodV (P : Program) (F : Fz) (m : Mp) (w : World) (y : AV) (h' : Heap) (s : Sem Value) : Prop :=
  ∃ v w' F' m', s.run P w = .ok v w' ∧ Ext F m F' m' ∧ VRel F' m' y v ∧ Rel F' m' h' w' ∧ Same w w'

theorem same_grown (w : World) (o : Obj) : Same w (w.drew.alloc o) := ⟨rfl, rfl, rfl, by simp⟩

/-- What a grown row holds. -/
theorem grown_cells {k n len cap need : Nat} {olds news : List Value} {z : Array Value} (hz : z.size = k) (ho : olds.length = len * k) (hn : news.length = n * k) (hc : len + n ≤ cap) (hneed : need = len + n) :
    (olds.toArray ++ news.toArray ++ Builtin.zeroCells z (cap - need)).size = cap * k ∧ ((olds.toArray ++ news.toArray ++ Builtin.zeroCells z (cap - need)).toList.take ((len + n) * k) = olds ++ news) := by
  subst hneed
  constructor
  · simp only [Array.size_append, List.size_toArray, size_zeroCells, hz, ho, hn, ← Nat.add_mul]
    congr 1
    omega
  · simp only [Array.toList_append]
    rw [List.take_append_of_le_length (by simp [ho, hn, ← Nat.add_mul]), List.take_of_length_le (by simp [ho, hn, ← Nat.add_mul])]

set_option maxHeartbeats 1000000 in
theorem appendE_sound {Z : List (TypeId × AV)} (hZ : ∀ t z, assoc Z t = some z → ∃ i v, P.info? t = some i ∧ i.zero = some v ∧ toV z = some v) (r : Rel F m h w) {ts : Array TypeId} {s x y : AV} {sv xv : Value} {h' : Heap} {sto : Option (Nat × Bool)} {cl : Cl}
    (ho : appendE P Z h ts s x = some (y, h', sto, cl)) (hs : VRel F m s sv) (hx : VRel F m x xv) (ty : TypeId) : GoodV P F m w y h' (Builtin.append_ ts ty #[sv, xv]) := by
  unfold appendE at ho
  split at ho
  · rename_i st xt h0 h1
    split at ho
    · rename_i e hu
      split at ho
      · rename_i i hi
        split at ho
        · rename_i z xs hz hxs
          cases hb : (Nat.beq z.cells.size i.size && Nat.ble 1 i.size && Nat.ble 1 i.bytes && Nat.ble (((sliceLen s).getD 0 + xs.length) * i.bytes) 140737488355328) with
          | false => simp [hb] at ho
          | true =>
            simp only [hb, cond_true] at ho
            simp only [Bool.and_eq_true] at hb
            obtain ⟨⟨⟨b1, b2⟩, b3⟩, b4⟩ := hb
            have ez : z.cells.size = i.size := Nat.eq_of_beq_eq_true b1
            have hk0 : 1 ≤ i.size := Nat.le_of_ble_eq_true b2
            have hby : 1 ≤ i.bytes := Nat.le_of_ble_eq_true b3
            have hbound := Nat.le_of_ble_eq_true b4
            obtain ⟨news, n1, n2, n3⟩ := srcEls_rel hZ r hi hxs hx
            have hnl : news.length = xs.length * i.size := len_of_CL n1 n2
            have app : AppIn P w st xt e i z xv xs.length news := by
              refine ⟨hu, hi, hz, ez, hk0, hnl, ?_⟩
              rcases n3 with ⟨kd, q, z', q1, q2, q3, q4, q5, q6, q7, q8⟩ | ⟨q1, q2, q3⟩
              · rw [hz] at q6
                injection q6 with q6
                subst q6
                exact .inl ⟨kd, q, q1, q2, q3, q4, q5, by rw [q5]; exact q8⟩
              · have hxt : ∃ d, P.underlying xt = some d := by
                  unfold srcEls at hxs
                  split at hxs <;> first | exact ⟨_, by assumption⟩ | cases hxs
                obtain ⟨d, hd⟩ := hxt
                exact .inr ⟨⟨d, hd, fun kd e0 => q1 kd (by rw [hd, e0])⟩, q2, fun w' hw => by have := q3 xs.length (Nat.le_refl _) w' hw; rwa [List.take_of_length_le (by omega)] at this⟩
            rw [show (Builtin.append_ ts ty #[sv, xv]) = Builtin.append_ #[st, xt] ty #[sv, xv] from append_ts h0 h1]
            have hone : ∀ c ∈ news, c.oneCell' = true := CL.one _ _ n1
            have hempty : xs.isEmpty = true → xs = [] ∧ news = [] := fun he => by
              have : xs = [] := by simpa using he
              subst this
              exact ⟨rfl, List.eq_nil_of_length_eq_zero (by simpa using hnl)⟩
            -- a new row behind a slice that had room for nothing
            have fresh : ∀ (base : Option Addr) (len cap : Nat) (l : List AV) (olds : List Value), CL F m l olds → allK i.size l = true → l.length = len → ¬ len + xs.length ≤ cap → (len + xs.length) * i.bytes ≤ 140737488355328 →
                (∀ w', w'.heap = w.heap → (Builtin.firstCells i.size len (.slice base len cap)).run P w' = .ok olds.toArray w') →
                GoodV P F m w (.sl h.length 0 0 (len + xs.length)) (newRow h i.size (l ++ xs) ⟨false, e⟩) (Builtin.append_ #[st, xt] ty #[.slice base len cap, xv]) := by
              intro base len cap l olds hl hk hlen hroom hbd hfc
              have hrun := append_grow (ty := ty) app hroom hby hbd hfc
              have hge := grownCap_ge w (len + xs.length) cap e
              have hmx : len + xs.length ≤ maxLen := by
                have : len + xs.length ≤ 140737488355328 := Nat.le_trans (Nat.le_mul_of_pos_right _ hby) hbd
                simp only [maxLen]; omega
              have hcm := grownCap_le_maxLen w (len + xs.length) cap e hmx
              generalize grownCap w (len + xs.length) cap e = NC at hrun hge hcm
              obtain ⟨c1, c2⟩ := grown_cells (z := z.cells) (cap := NC) (need := len + xs.length) ez (by rw [len_of_CL hl hk, hlen]) hnl hge rfl
              obtain ⟨r', e'⟩ := (r.of_heap (w' := w.drew) rfl).newRow (k := i.size) (C := NC) (els := l ++ xs) (ex := ⟨false, e⟩) (cells := _) hk0 c1 (by simp [hlen]; exact hge) (by simp) hcm (by rw [allK_append, hk, n2]; rfl)
                (by rw [List.length_append, hlen, c2]; exact CL_append hl n1)
              refine ⟨_, _, _, _, hrun, e', ?_, r', same_grown _ _⟩
              simp only [VRel]
              exact ⟨w.heap.size, NC, i.size, ⟨w.heap.size, 0, none⟩, Mp.add_same, by omega, rfl, rfl, by simp, by simp⟩
            unfold appendTo at ho
            split at ho
            · -- nil
              simp only [VRel] at hs
              obtain ⟨_, rfl⟩ := hs
              cases he : xs.isEmpty with
              | true =>
                simp only [he, cond_true, Option.some.injEq, Prod.mk.injEq] at ho
                obtain ⟨rfl, rfl, rfl, rfl⟩ := ho
                obtain ⟨rfl, rfl⟩ := hempty he
                have hrun := append_room (ty := ty) app (base := none) (sLen := 0) (sCap := 0) (by simp) (by simp) (w' := w) (fun ad h => by cases h) (fun _ => rfl)
                exact ⟨_, w, F, m, hrun, Ext.refl _ _, by simp [VRel, free], r, Same.refl _⟩
              | false =>
                simp only [he, cond_false, Option.some.injEq, Prod.mk.injEq] at ho
                obtain ⟨rfl, rfl, rfl, rfl⟩ := ho
                have hpos : 0 < xs.length := by cases xs with | nil => simp at he | cons => simp
                have := fresh none 0 0 [] [] (by simp [CL]) rfl rfl (by omega) (by simpa [sliceLen] using hbound) (fun w' _ => by simp [Builtin.firstCells])
                simpa using this
            · -- frozen
              rename_i k full l
              simp only [VRel] at hs
              obtain ⟨ad, cap, cs, g1, g2, g3, g4, g5, g6, rfl⟩ := hs
              cases he : xs.isEmpty with
              | true =>
                simp only [he, cond_true, Option.some.injEq, Prod.mk.injEq] at ho
                obtain ⟨rfl, rfl, rfl, rfl⟩ := ho
                obtain ⟨rfl, rfl⟩ := hempty he
                have hrun := append_room (ty := ty) app (base := some ad) (sLen := l.length) (sCap := cap) (by simpa using g5) (by simp) (w' := w) (fun ad' _ => by simp [storeCells]) (fun h => by cases h)
                refine ⟨_, w, F, m, hrun, Ext.refl _ _, ?_, r, Same.refl _⟩
                simp only [VRel]
                exact ⟨ad, cap, cs, g1, g2, g3, g4, g5, g6, by simp⟩
              | false =>
                simp only [he, cond_false] at ho
                cases hf : (full && Nat.beq k i.size) with
                | false => simp [hf] at ho
                | true =>
                  simp only [hf, cond_true, Option.some.injEq, Prod.mk.injEq] at ho
                  obtain ⟨rfl, rfl, rfl, rfl⟩ := ho
                  rw [Bool.and_eq_true] at hf
                  have ek : k = i.size := Nat.eq_of_beq_eq_true hf.2
                  subst ek
                  have hcap := g6 hf.1
                  have hpos : 0 < xs.length := by cases xs with | nil => simp at he | cons => simp
                  exact fresh (some ad) l.length cap l cs g1 g2 rfl (by omega) (by simpa [sliceLen] using hbound) (fun w' hw => run_firstCells_some w' i.size l.length ad l.length cap cs (len_of_CL g1 g2) (fun j v hj => by
                    obtain ⟨c', e', fz, f1, f2⟩ := g3 j v hj
                    rw [add_any g4]
                    simp [World.cell?, hw, r.fz _ _ f1, f2]))
            · -- an own row
              rename_i id gen off len
              split at ho
              · rename_i k g els ex hr
                cases hb2 : (Nat.beq k i.size && Nat.beq g gen && Nat.ble (off + len) els.length) with
                | false => simp [hb2] at ho
                | true =>
                  simp only [hb2, cond_true] at ho
                  simp only [Bool.and_eq_true] at hb2
                  obtain ⟨⟨c1, c2⟩, c3⟩ := hb2
                  have ek : k = i.size := Nat.eq_of_beq_eq_true c1
                  have eg : g = gen := Nat.eq_of_beq_eq_true c2
                  have hol : off + len ≤ els.length := Nat.le_of_ble_eq_true c3
                  subst ek; subst eg
                  obtain ⟨gb, C, e', cur, ad, xr, g1, g2, g3, g4, rfl⟩ := sl_row r hs hr
                  have hlC := xr.len
                  have hnb : xs.length * i.bytes ≤ 140737488355328 := Nat.le_trans (Nat.mul_le_mul_right _ (by omega)) hbound
                  cases hin : Nat.ble (off + len + xs.length) els.length with
                  | true =>
                    simp only [hin, cond_true, Option.some.injEq, Prod.mk.injEq] at ho
                    obtain ⟨rfl, rfl, rfl, rfl⟩ := ho
                    have hfit := Nat.le_of_ble_eq_true hin
                    cases hne : xs.isEmpty with
                    | true =>
                      obtain ⟨e1, e2⟩ := hempty hne
                      subst e1; subst e2
                      have hrun := append_room (ty := ty) app (base := some ad) (sLen := len) (sCap := C - off) (by simp; omega) (by simp) (w' := w) (fun ad' _ => by simp [storeCells]) (fun h => by cases h)
                      refine ⟨_, w, F, m, hrun, Ext.refl _ _, ?_, by rw [setFrom_nil, set_self_row hr]; exact r, Same.refl _⟩
                      simp only [VRel, List.length_nil, Nat.add_zero]
                      exact ⟨gb, C, i.size, ad, xr.mp, g1, g2, g3, g4, rfl⟩
                    | false =>
                      have hpos : 0 < xs.length := by cases xs with | nil => simp at hne | cons => simp
                      have hoff := g4 (by omega)
                      have hadd : ad.add (len * i.size) = ⟨gb, (off + len) * i.size, none⟩ := by rw [add_any g3, g2, hoff, ← Nat.add_mul]
                      have hmul : (off + len + xs.length) * i.size ≤ C * i.size := Nat.mul_le_mul_right _ (by omega)
                      have hsize := xr.size
                      rw [Nat.add_mul] at hmul
                      have hst := run_storeCells_at P gb ((off + len) * i.size) e' news 0 cur w xr.heap (by omega) hone
                      have hrun := append_room (ty := ty) app (base := some ad) (sLen := len) (sCap := C - off) (by omega) hnb (w' := w.setRow gb (splice cur.toList ((off + len) * i.size) news).toArray)
                        (fun ad' h => by injection h with h; subst h; rw [hadd]; simpa [splice] using hst) (fun h => by cases h)
                      refine ⟨_, _, F, m, hrun, Ext.refl _ _, ?_, ?_, same_setRow _ _ _⟩
                      · simp only [VRel]
                        exact ⟨gb, C, i.size, ad, xr.mp, by omega, g2, g3, g4, rfl⟩
                      · obtain ⟨q1, q2⟩ := CL_setFrom (i := off + len) xr.cells xr.all n1 n2 hfit
                        refine r.setRow hr xr (splice_size (by omega)) (by rw [setFrom_length]; exact xr.len) (fun h => by rw [setFrom_length]; exact xr.exact h) q2 ?_
                        rw [setFrom_length, List.toList_toArray, take_splice (by rw [hnl, ← Nat.add_mul]; exact Nat.mul_le_mul_right _ hfit) (by simp [hsize]; exact Nat.mul_le_mul_right _ xr.len)]
                        exact q1
                  | false =>
                    simp only [hin, cond_false] at ho
                    have hnfit : ¬ off + len + xs.length ≤ els.length := fun hh => by rw [Nat.ble_eq_true_of_le hh] at hin; cases hin
                    cases ho0 : (Nat.beq off 0 && Nat.beq ex.ty e) with
                    | false => simp [ho0] at ho
                    | true =>
                      simp only [ho0, cond_true, Option.some.injEq, Prod.mk.injEq] at ho
                      obtain ⟨rfl, rfl, rfl, rfl⟩ := ho
                      rw [Bool.and_eq_true] at ho0
                      have eo : off = 0 := Nat.eq_of_beq_eq_true ho0.1
                      have et : e = e' := (xr.ty.trans (Nat.eq_of_beq_eq_true ho0.2)).symm
                      subst eo
                      subst et
                      simp only [Nat.zero_add, Nat.sub_zero] at *
                      have hsize := xr.size
                      have holds : CL F m (els.take len) (cur.toList.take (len * i.size)) := by
                        have := CL_take xr.cells xr.all len
                        rw [List.take_take, Nat.min_eq_left (Nat.mul_le_mul_right _ hol)] at this
                        exact this
                      have htk := allK_take len xr.all
                      have htl : (els.take len).length = len := by simp; omega
                      have hol' : (cur.toList.take (len * i.size)).length = len * i.size := by rw [len_of_CL holds htk, htl]
                      by_cases hroom : len + xs.length ≤ C
                      · -- it had room
                        have hoff : 0 < C → ad.off = 0 := fun hp => by rw [g4 hp]; simp
                        have hadd : ad.add (len * i.size) = ⟨gb, len * i.size, none⟩ := by rw [add_any g3, g2, hoff (by omega), Nat.zero_add]
                        have hmul : (len + xs.length) * i.size ≤ C * i.size := Nat.mul_le_mul_right _ hroom
                        rw [Nat.add_mul] at hmul
                        have hst := run_storeCells_at P gb (len * i.size) e news 0 cur w xr.heap (by omega) hone
                        have hrun := append_room (ty := ty) app (base := some ad) (sLen := len) (sCap := C) hroom hnb (w' := w.setRow gb (splice cur.toList (len * i.size) news).toArray)
                          (fun ad' h => by injection h with h; subst h; rw [hadd]; simpa [splice] using hst) (fun h => by cases h)
                        have hsp : ((splice cur.toList (len * i.size) news).take ((len + xs.length) * i.size)) = cur.toList.take (len * i.size) ++ news := by
                          unfold splice
                          rw [List.take_append_of_le_length (by simp [hsize]; rw [Nat.min_eq_left (by omega), hnl, Nat.add_mul]; exact Nat.le_refl _), List.take_of_length_le]
                          simp [hsize]; rw [Nat.min_eq_left (by omega), hnl, Nat.add_mul]; exact Nat.le_refl _
                        obtain ⟨r', e2⟩ := r.regen hr xr (g' := gb) (C' := C) (els' := els.take len ++ xs) (cur' := (splice cur.toList (len * i.size) news).toArray) (e' := e) (w' := w.setRow gb (splice cur.toList (len * i.size) news).toArray)
                          (fun b o hb hbg => by rw [setRow_other w gb b _ hbg]; exact hb) (.inl rfl) xr.own (setRow_heap w gb cur _ e (0, 0) xr.heap) (by rw [splice_size (by omega), hsize]) (by simp [Nat.min_eq_left hol]; exact hroom) xr.most
                          (by rw [allK_append, htk, n2]; rfl) (by rw [List.length_append, htl, List.toList_toArray, hsp]; exact CL_append holds n1)
                        refine ⟨_, _, F, _, hrun, e2, ?_, r', same_setRow _ _ _⟩
                        simp only [VRel]
                        exact ⟨gb, C, i.size, ad, Mp.add_same, by omega, g2, g3, g4, by simp⟩
                      · -- a new block
                        have hbd : (len + xs.length) * i.bytes ≤ 140737488355328 := by simpa [sliceLen] using hbound
                        have hpos : 0 < xs.length := by omega
                        have hrun := append_grow (ty := ty) app (base := some ad) (sLen := len) (sCap := C) (olds := cur.toList.take (len * i.size)) hroom hby hbd (fun w' hw => run_firstCells_some w' i.size len ad len C _ hol' (fun j v hj => by
                          have hjl := lt_of_getElem? hj
                          have hlen0 : 0 < C := by
                            rw [hol'] at hjl
                            have : 0 < len := Nat.pos_of_mul_pos_right (Nat.lt_of_le_of_lt (Nat.zero_le _) hjl)
                            omega
                          rw [add_any g3, g2, g4 hlen0]
                          simp only [List.getElem?_take] at hj
                          split at hj
                          · simp only [World.cell?, hw, xr.heap]
                            simpa using hj
                          · cases hj))
                        have hge := grownCap_ge w (len + xs.length) C e
                        have hmx : len + xs.length ≤ maxLen := by
                          have : len + xs.length ≤ 140737488355328 := Nat.le_trans (Nat.le_mul_of_pos_right _ hby) hbd
                          simp only [maxLen]; omega
                        have hcm := grownCap_le_maxLen w (len + xs.length) C e hmx
                        generalize grownCap w (len + xs.length) C e = NC at hrun hge hcm
                        obtain ⟨q1, q2⟩ := grown_cells (z := z.cells) (cap := NC) (need := len + xs.length) ez hol' hnl hge rfl
                        obtain ⟨r', e2⟩ := r.regen hr xr (g' := w.heap.size) (C' := NC) (els' := els.take len ++ xs) (cur' := _) (e' := e) (w' := w.drew.alloc (.cells _ e))
                          (fun b o hb hbg => heap_alloc_old w.drew _ hb) (.inr (Nat.le_refl _)) (r.none_at (Nat.le_refl _)) (heap_alloc_self w.drew _) q1 (by simp [Nat.min_eq_left hol]; exact hge) hcm
                          (by rw [allK_append, htk, n2]; rfl) (by rw [List.length_append, htl, q2]; exact CL_append holds n1)
                        refine ⟨_, _, F, _, hrun, e2, ?_, r', same_grown _ _⟩
                        simp only [VRel]
                        exact ⟨w.heap.size, NC, i.size, ⟨w.heap.size, 0, none⟩, Mp.add_same, by omega, rfl, rfl, by simp, by simp⟩
              · cases ho
            · cases ho
        · cases ho
      · cases ho
    · cases ho
  · cases ho

end Go.AM
