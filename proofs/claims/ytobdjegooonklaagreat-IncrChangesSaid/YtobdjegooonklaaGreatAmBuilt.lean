/- append, copy and the other builtins of the abstract machine are those of the real one. Conditions: none. -/
import Derived.Test.YtobdjegooonklaaGreatAmOps4
set_option linter.unusedVariables false
set_option linter.unusedSimpArgs false
namespace Go.AM
open Go

variable {F : Fz} {m : Mp} {fr : FR} {a : Act} {h : Heap} {w : World} {P : Program}

theorem set_self_row {h : Heap} {id : Nat} {r : Row} (hr : h[id]? = some r) : h.set id r = h := by
  apply List.ext_getElem?
  intro j
  rw [List.getElem?_set]
  split
  · rename_i e
    subst e
    have := lt_of_getElem? hr
    simp only [this, if_true]
    exact hr.symm
  · rfl

/-! ### Consecutive elements written -/
theorem setFrom_length : ∀ (ys l : List AV) (i : Nat), (setFrom l i ys).length = l.length
  | [], l, i => rfl
  | y :: ys, l, i => by simp [setFrom, setFrom_length ys]

theorem setFrom_nil (l : List AV) (i : Nat) : setFrom l i [] = l := rfl

theorem splice_two {l z z' : List Value} {o : Nat} (h : o + z.length + z'.length ≤ l.length) : splice (splice l o z) (o + z.length) z' = splice l o (z ++ z') := by
  unfold splice
  have e1 : (l.take o ++ z).length = o + z.length := by simp; omega
  rw [List.take_append_of_le_length (by omega), List.take_of_length_le (by omega)]
  rw [show (l.take o ++ z ++ l.drop (o + z.length)).drop (o + z.length + z'.length) = l.drop (o + (z ++ z').length) by
    rw [List.drop_append, e1, List.drop_eq_nil_of_le (by omega), List.nil_append, List.drop_drop]
    congr 1
    simp; omega]
  simp

theorem CL_setFrom {k : Nat} : ∀ {ys l : List AV} {i : Nat} {cs zs : List Value}, CL F m l cs → allK k l = true → CL F m ys zs → allK k ys = true → i + ys.length ≤ l.length →
    CL F m (setFrom l i ys) (splice cs (i * k) zs) ∧ allK k (setFrom l i ys) = true
  | [], l, i, cs, zs, hc, hk, hz, _, _ => by
    simp only [CL] at hz
    subst hz
    simp only [setFrom]
    exact ⟨by simpa [splice] using hc, hk⟩
  | y :: ys, l, i, cs, zs, hc, hk, hz, hy, hi => by
    simp only [CL] at hz
    obtain ⟨v, ds, z1, z2, z3, rfl⟩ := hz
    simp [allK] at hy
    simp only [List.length_cons] at hi
    have hs := CL_set hc hk (by omega : i < l.length) z1 z2 hy.1
    have hk' := allK_set (i := i) hk hy.1
    obtain ⟨g1, g2⟩ := CL_setFrom (i := i + 1) hs hk' z3 hy.2 (by simp; omega)
    refine ⟨?_, g2⟩
    have hv : v.cells.toList.length = k := by rw [← hy.1]; simp [VRel.size y v z1 z2]
    have hd : ds.length = ys.length * k := len_of_CL z3 hy.2
    have hcl : cs.length = l.length * k := len_of_CL hc hk
    have hle : (i + (ys.length + 1)) * k ≤ l.length * k := Nat.mul_le_mul_right _ hi
    simp only [Nat.add_mul, Nat.one_mul] at hle
    have := splice_two (l := cs) (o := i * k) (z := v.cells.toList) (z' := ds) (by omega)
    simp only [setFrom]
    rw [← this, hv, show i * k + k = (i + 1) * k by rw [Nat.add_mul, Nat.one_mul]]
    exact g1

/-! ### What is appended or copied -/
theorem srcEls_rel {Z : List (TypeId × AV)} (hZ : ∀ t z, assoc Z t = some z → ∃ i v, P.info? t = some i ∧ i.zero = some v ∧ toV z = some v) (r : Rel F m h w) {xt e : TypeId} {i : TypeInfo} {x : AV} {xs : List AV} {xv : Value}
    (hi : P.info? e = some i) (hs : srcEls P Z h xt e i.size x = some xs) (hx : VRel F m x xv) :
    ∃ news : List Value, CL F m xs news ∧ allK i.size xs = true ∧
      ((∃ kd n z, P.underlying xt = some (.int kd) ∧ xv = .int .i64 n ∧ 0 ≤ n ∧ n ≤ 16777216 ∧ xs.length = n.toNat ∧ i.zero = some z ∧ z.cells.size = i.size ∧ news = (List.replicate n.toNat z.cells.toList).flatten) ∨
       ((∀ kd, P.underlying xt ≠ some (.int kd)) ∧ (∀ w', (Builtin.lenOf xv).run P w' = .ok xs.length w') ∧ (∀ n', n' ≤ xs.length → ∀ w', w'.heap = w.heap → (Builtin.firstCells i.size n' xv).run P w' = .ok (news.take (n' * i.size)).toArray w'))) := by
  unfold srcEls at hs
  split at hs
  · -- so many zero values
    rename_i kd n hu
    split at hs
    · rename_i z hz
      cases hb : (decide (0 ≤ n) && decide (n ≤ 16777216) && Nat.beq (leafs z) i.size) with
      | false => simp [hb] at hs
      | true =>
        simp only [hb, cond_true, Option.some.injEq] at hs
        subst hs
        simp only [Bool.and_eq_true, decide_eq_true_eq] at hb
        have ek : leafs z = i.size := Nat.eq_of_beq_eq_true hb.2
        obtain ⟨i', v, i1, i2, i3⟩ := hZ e z hz
        rw [hi] at i1
        injection i1 with i1
        subst i1
        obtain ⟨g1, g2⟩ := toV_self (F := F) (m := m) z v i3
        simp only [VRel] at hx
        exact ⟨_, CL_replicate g1 g2 n.toNat, allK_replicate ek, .inl ⟨kd, n, v, hu, hx.2, hb.1.1, hb.1.2, by simp, i2, by rw [VRel.size z v g1 g2, ek], rfl⟩⟩
    · cases hs
  · -- a string
    rename_i s hu
    cases hb : Nat.beq i.size 1 with
    | false => simp [hb] at hs
    | true =>
      simp only [hb, cond_true, Option.some.injEq] at hs
      subst hs
      have e1 : i.size = 1 := Nat.eq_of_beq_eq_true hb
      simp only [VRel] at hx
      obtain ⟨_, rfl⟩ := hx
      have hl : (ofBytes s.data.toList).length = s.size := by simp [ofBytes]
      refine ⟨_, CL_bytes _, by rw [e1]; exact allK_bytes _, .inr ⟨by rw [hu]; simp, fun w' => by rw [hl]; simp [Builtin.lenOf], fun n' hn' w' _ => ?_⟩⟩
      rw [hl] at hn'
      rw [e1, Nat.mul_one]
      simp only [Builtin.firstCells, Sem.run_pure]
      congr 1
      apply Array.toList_inj.1
      simp [ByteArray.data_extract, show s.data.size = s.size from rfl]
  · -- nil
    rename_i e' hu
    injection hs with hs
    subst hs
    simp only [VRel] at hx
    obtain ⟨_, rfl⟩ := hx
    exact ⟨[], by simp [CL], rfl, .inr ⟨by rw [hu]; simp, fun w' => by simp [Builtin.lenOf], fun n' _ w' _ => by simp [Builtin.firstCells]⟩⟩
  · -- a slice
    rename_i e' hu _
    split at hs
    · rename_i k l he
      cases hb : Nat.beq i.size k with
      | false => simp [hb] at hs
      | true =>
        simp only [hb, cond_true, Option.some.injEq] at hs
        subst hs
        have e1 : i.size = k := Nat.eq_of_beq_eq_true hb
        subst e1
        obtain ⟨ad, cap, cs, els⟩ := elsOf_rel r he hx
        refine ⟨cs, els.cells, els.all, .inr ⟨by rw [hu]; simp, fun w' => by rw [els.val]; simp [Builtin.lenOf], fun n' hn' w' hw => ?_⟩⟩
        rw [els.val]
        have hlc := len_of_CL els.cells els.all
        refine run_firstCells_some w' i.size n' ad l.length cap _ (by rw [List.length_take, Nat.min_eq_left (by rw [hlc]; exact Nat.mul_le_mul_right _ hn')]) (fun j v hj => ?_)
        simp only [List.getElem?_take] at hj
        split at hj
        · have := els.mem j v hj
          simpa [World.cell?, hw] using this
        · cases hj
    · cases hs
  · cases hs

theorem zeroCells_eq {z : Array Value} {k : Nat} (hz : z.size = k) (h0 : 0 < k) (n : Nat) : Builtin.zeroCells z n = (List.replicate n z.toList).flatten.toArray := by
  apply Array.toList_inj.1
  unfold Builtin.zeroCells
  have := range_mod z k hz h0 n
  rw [hz] at this ⊢
  simpa using this

/-! ### append, as it runs -/
structure AppIn (P : Program) (w : World) (st xt e : TypeId) (i : TypeInfo) (z : Value) (xv : Value) (n : Nat) (news : List Value) : Prop where
  st : P.underlying st = some (.slice e)
  info : P.info? e = some i
  zero : i.zero = some z
  zsize : z.cells.size = i.size
  pos : 0 < i.size
  len : news.length = n * i.size
  src : (∃ kd q, P.underlying xt = some (.int kd) ∧ xv = .int .i64 q ∧ 0 ≤ q ∧ q ≤ 16777216 ∧ n = q.toNat ∧ news = (List.replicate n z.cells.toList).flatten) ∨
       ((∃ d, P.underlying xt = some d ∧ ∀ kd, d ≠ .int kd) ∧ (∀ w', (Builtin.lenOf xv).run P w' = .ok n w') ∧ (∀ w', w'.heap = w.heap → (Builtin.firstCells i.size n xv).run P w' = .ok news.toArray w'))

/-- There is room: what it writes it writes behind the slice. -/
theorem append_room {st xt e ty : TypeId} {i : TypeInfo} {z xv : Value} {n : Nat} {news : List Value} (x : AppIn P w st xt e i z xv n news) {base : Option Addr} {sLen sCap : Nat} (hroom : sLen + n ≤ sCap) (hb : n * i.bytes ≤ 140737488355328)
    {w' : World} (hst : ∀ ad, base = some ad → (storeCells (ad.add (sLen * i.size)) news).run P w = .ok () w') (hno : base = none → w' = w) :
    (Builtin.append_ #[st, xt] ty #[.slice base sLen sCap, xv]).run P w = .ok (.slice base (sLen + n) sCap) w' := by
  have hsz : ∀ w, (sizeOf e).run P w = .ok i.size w := fun w => by simp [sizeOf, typeInfo, x.info]
  have hti : ∀ w, (typeInfo e).run P w = .ok i w := fun w => by simp [typeInfo, x.info]
  have hnews0 : n * i.size = 0 → news = [] := fun h => List.eq_nil_of_length_eq_zero (by rw [x.len]; exact h)
  rcases x.src with ⟨kd, q, h1, rfl, h3, h4, h5, h6⟩ | ⟨⟨d, h1, h2⟩, h3, h4⟩
  · have hw : IntKind.i64.wrap q = q := IntWalk.i64_in q (by omega)
    have hzr : ∀ w, (zeroValue e).run P w = .ok z w := fun w => by simp [zeroValue, typeInfo, x.info, x.zero]
    have hqb : ¬ 281474976710656 < q * (i.bytes : Int) := by
      have : ((n * i.bytes : Nat) : Int) ≤ ((140737488355328 : Nat) : Int) := Int.ofNat_le.2 hb
      rw [h5] at this
      have e : ((q.toNat * i.bytes : Nat) : Int) = q * (i.bytes : Int) := by rw [Int.natCast_mul, Int.toNat_of_nonneg h3]
      omega
    have hzc := zeroCells_eq x.zsize x.pos n
    cases base with
    | none =>
      have hw' := hno rfl
      subst hw'
      by_cases h0 : n * i.size = 0
      · simp [-bind_pure_comp, Builtin.append_, run_underlying x.st, run_underlying h1, hsz, hti, asInt, asIntOf, hw, hqb, ← h5, hroom, show ¬ q < 0 by omega, h0]
      · simp [-bind_pure_comp, Builtin.append_, run_underlying x.st, run_underlying h1, hsz, hti, asInt, asIntOf, hw, hqb, ← h5, hroom, show ¬ q < 0 by omega, h0, hzr]
    | some ad =>
      have hs := hst ad rfl
      by_cases h0 : n * i.size = 0
      · rw [hnews0 h0] at hs
        simp [-bind_pure_comp, Builtin.append_, run_underlying x.st, run_underlying h1, hsz, hti, asInt, asIntOf, hw, hqb, ← h5, hroom, show ¬ q < 0 by omega, h0, hs]
      · rw [h6] at hs
        simp [-bind_pure_comp, Builtin.append_, run_underlying x.st, run_underlying h1, hsz, hti, asInt, asIntOf, hw, hqb, ← h5, hroom, show ¬ q < 0 by omega, h0, hzr, hzc, hs]
  · have hnot : ((d matches .int _) : Bool) = false := by
      cases d <;> first | rfl | exact absurd rfl (h2 _)
    cases base with
    | none =>
      have hw' := hno rfl
      subst hw'
      simp [-bind_pure_comp, Builtin.append_, run_underlying x.st, run_underlying h1, hsz, hti, hnot, h3, hroom, h4]
    | some ad =>
      have hs := hst ad rfl
      simp [-bind_pure_comp, Builtin.append_, run_underlying x.st, run_underlying h1, hsz, hti, hnot, h3, hroom, h4, hs]

theorem grown_block (w : World) (o : Obj) : w.drew.alloc o = { w.alloc o with drawn := w.drawn + 1 } := rfl

/-- There is no room: a new row. -/
theorem append_grow {st xt e ty : TypeId} {i : TypeInfo} {z xv : Value} {n : Nat} {news olds : List Value} (x : AppIn P w st xt e i z xv n news) {base : Option Addr} {sLen sCap : Nat} (hroom : ¬ sLen + n ≤ sCap) (hb1 : 1 ≤ i.bytes)
    (hb : (sLen + n) * i.bytes ≤ 140737488355328) (ho : ∀ w', w'.heap = w.heap → (Builtin.firstCells i.size sLen (.slice base sLen sCap)).run P w' = .ok olds.toArray w') :
    (Builtin.append_ #[st, xt] ty #[.slice base sLen sCap, xv]).run P w =
      .ok (.slice (some ⟨w.heap.size, 0, none⟩) (sLen + n) (grownCap w (sLen + n) sCap e))
        (w.drew.alloc (.cells (olds.toArray ++ news.toArray ++ Builtin.zeroCells z.cells (grownCap w (sLen + n) sCap e - (sLen + n))) e)) := by
  have hsz : ∀ w, (sizeOf e).run P w = .ok i.size w := fun w => by simp [sizeOf, typeInfo, x.info]
  have hti : ∀ w, (typeInfo e).run P w = .ok i w := fun w => by simp [typeInfo, x.info]
  have hzr : ∀ w, (zeroValue e).run P w = .ok z w := fun w => by simp [zeroValue, typeInfo, x.info, x.zero]
  have hnews0 : n * i.size = 0 → news = [] := fun h => List.eq_nil_of_length_eq_zero (by rw [x.len]; exact h)
  have hfit := growslice_fits (need := sLen + n) (old := sCap) (bytes := i.bytes) (by omega) hb
  have hfit' : ¬ 281474976710656 < Builtin.nextslicecap (sLen + n) sCap * i.bytes := by omega
  have hneed : sLen + n ≤ 140737488355328 := Nat.le_trans (Nat.le_mul_of_pos_right _ hb1) hb
  have hmax : ¬ (IntKind.i64.max : Int) < ((sLen + n : Nat) : Int) := by
    have : (IntKind.i64.max : Int) = 9223372036854775807 := rfl
    omega
  have hmax' : ¬ (IntKind.i64.max : Int) < (sLen : Int) + (n : Int) := by
    have : (IntKind.i64.max : Int) = 9223372036854775807 := rfl
    omega
  have hch : (choose (.appendCap (sLen + n) sCap e)).run P w = .ok (grownCap w (sLen + n) sCap e) w.drew := by simp [grownCap, Question.forced]
  have ho' := ho w.drew rfl
  have hnb : n * i.bytes ≤ 140737488355328 := Nat.le_trans (Nat.mul_le_mul_right _ (by omega)) hb
  rcases x.src with ⟨kd, q, h1, rfl, h3, h4, h5, h6⟩ | ⟨⟨d, h1, h2⟩, h3, h4⟩
  · have hw : IntKind.i64.wrap q = q := IntWalk.i64_in q (by omega)
    have hqb : ¬ 281474976710656 < q * (i.bytes : Int) := by
      have : ((n * i.bytes : Nat) : Int) ≤ ((140737488355328 : Nat) : Int) := Int.ofNat_le.2 hnb
      rw [h5] at this
      have e : ((q.toNat * i.bytes : Nat) : Int) = q * (i.bytes : Int) := by rw [Int.natCast_mul, Int.toNat_of_nonneg h3]
      omega
    have hzc := zeroCells_eq x.zsize x.pos n
    have hmax2 : ¬ (9223372036854775807 : Int) < (sLen : Int) + max q 0 := by omega
    by_cases h0 : n * i.size = 0
    · rw [hnews0 h0]
      simp [-bind_pure_comp, Builtin.append_, run_underlying x.st, run_underlying h1, hsz, hti, asInt, asIntOf, hw, hqb, ← h5, hroom, show ¬ q < 0 by omega, h0, hfit', hmax', hmax2, Question.forced, grownCap, ho', hzr, Go.newRow]
    · simp [-bind_pure_comp, Builtin.append_, run_underlying x.st, run_underlying h1, hsz, hti, asInt, asIntOf, hw, hqb, ← h5, hroom, show ¬ q < 0 by omega, h0, hfit', hmax', hmax2, Question.forced, grownCap, ho', hzr, Go.newRow, hzc, h6]
      exact congrArg (fun c => w.drew.alloc (.cells c e)) (Array.toList_inj.1 (by simp))
  · have hnot : ((d matches .int _) : Bool) = false := by
      cases d <;> first | rfl | exact absurd rfl (h2 _)
    have h4' := h4 w.drew rfl
    simp [-bind_pure_comp, Builtin.append_, run_underlying x.st, run_underlying h1, hsz, hti, hnot, h3, hroom, h4', hfit', hmax', Question.forced, grownCap, ho', hzr, Go.newRow, show ¬ i.bytes = 0 by omega]
    exact congrArg (fun c => w.drew.alloc (.cells c e)) (Array.toList_inj.1 (by simp))

end Go.AM

set_option linter.unusedVariables false
set_option linter.unusedSimpArgs false
namespace Go.AM
open Go

variable {F : Fz} {m : Mp} {fr : FR} {a : Act} {h : Heap} {w : World} {P : Program}

/-- A row that has grown: its elders' places are no longer told. -/
theorem Rel.regen (r : Rel F m h w) {id k gen : Nat} {els els' : List AV} {ex : Tag} {g C g' C' : Nat} {e : TypeId} {cur cur' : Array Value} {w' : World} (hi : h[id]? = some (.row k gen els ex)) (x : RowR F m w id k gen els ex g C e cur)
    {e' : TypeId} (hne : ∀ b o, w.heap[b]? = some o → b ≠ g' → w'.heap[b]? = some o) (hg : g' = g ∨ w.heap.size ≤ g') (hF : F g' = none) (hh : w'.heap[g']? = some (.cells cur' e' (0, 0))) (hs : cur'.size = C' * k)
    (hl : els'.length ≤ C') (hm : C' ≤ maxLen) (ha : allK k els' = true) (hc : CL F m els' (cur'.toList.take (els'.length * k))) :
    Rel F (m.add id (gen + 1) (g', C', k)) (h.set id (.row k (gen + 1) els' ⟨false, e'⟩)) w' ∧ Ext F m F (m.add id (gen + 1) (g', C', k)) := by
  have hnew : m.row id (gen + 1) = none := by
    cases hq : m.row id (gen + 1) with
    | none => rfl
    | some q => have := x.gens (gen + 1) (by rw [hq]; simp); omega
  have he : Ext F m F (m.add id (gen + 1) (g', C', k)) := Ext.add hnew
  have hidl := lt_of_getElem? hi
  have hother : ∀ id1 k1 gen1 els1 ex1 g1 C1 e1 cur1, id1 ≠ id → h[id1]? = some (.row k1 gen1 els1 ex1) → RowR F m w id1 k1 gen1 els1 ex1 g1 C1 e1 cur1 → g1 ≠ g' := by
    intro id1 k1 gen1 els1 ex1 g1 C1 e1 cur1 hid h1 y hgg
    rcases hg with rfl | hg
    · subst hgg
      exact hid (r.inj _ _ _ _ _ _ _ _ _ _ _ _ _ _ _ h1 hi y.mp x.mp)
    · have := (Array.getElem?_eq_some_iff.1 y.heap).1
      omega
  have hotherM : ∀ id1 es c g1 ents, h[id1]? = some (.map es c) → MapR F m w id1 es c g1 ents → g1 ≠ g' := by
    intro id1 es c g1 ents h1 y hgg
    rcases hg with rfl | hg
    · subst hgg
      have := x.heap
      rw [y.heap] at this
      cases this
    · have := (Array.getElem?_eq_some_iff.1 y.heap).1
      omega
  refine ⟨⟨fun b o hb => hne b o (r.fz b o hb) (fun e0 => by subst e0; rw [hF] at hb; cases hb), fun id1 k1 gen1 els1 ex1 h1 => ?_, fun id1 es c h1 => ?_, fun i gn hn => ?_, fun i hn => by simpa using r.freshM i hn, ?_, ?_⟩, he⟩
  · rcases getElem?_set_row h1 with ⟨rfl, h2⟩ | ⟨hid, h2⟩
    · injection h2 with a1 a2 a3 a4
      subst a1; subst a2; subst a3; subst a4
      refine ⟨g', C', e', cur', ⟨Mp.add_same, x.pos, hh, hF, hs, hl, (fun h => by cases h), rfl, hm, ha, hc.mono he, fun gn hgn => ?_⟩⟩
      by_cases e0 : gn = gen + 1
      · omega
      · rw [Mp.add_other (by omega)] at hgn
        have := x.gens gn hgn
        omega
    · obtain ⟨g1, C1, e1, cur1, y⟩ := r.row _ _ _ _ _ h2
      refine ⟨g1, C1, e1, cur1, ⟨he.row _ _ _ y.mp, y.pos, hne _ _ y.heap (hother _ _ _ _ _ _ _ _ _ hid h2 y), y.own, y.size, y.len, y.exact, y.ty, y.most, y.all, y.cells.mono he, fun gn hgn => y.gens gn ?_⟩⟩
      rw [Mp.add_other (fun e0 => hid e0.1)] at hgn
      exact hgn
  · rcases getElem?_set_row h1 with ⟨rfl, h2⟩ | ⟨hid, h2⟩
    · cases h2
    · obtain ⟨g1, ents, y⟩ := r.map _ _ _ h2
      exact ⟨g1, ents, ⟨he.map _ _ y.mp, hne _ _ y.heap (hotherM _ _ _ _ _ h2 y), y.own, y.ents.mono he⟩⟩
  · by_cases e0 : i = id ∧ gn = gen + 1
    · simp [e0.1]; exact hidl
    · rw [Mp.add_other e0] at hn
      simpa using r.fresh i gn hn
  · intro id1 id2 k1 gen1 els1 ex1 k2 gen2 els2 ex2 gg C1 C2 r1 r2 h1 h2 h3 h4
    rcases getElem?_set_row h1 with ⟨rfl, e1⟩ | ⟨hid1, e1⟩ <;> rcases getElem?_set_row h2 with ⟨rfl, e2⟩ | ⟨hid2, e2⟩
    · rfl
    · injection e1 with a1 a2 a3 a4
      subst a2
      rw [Mp.add_same] at h3
      injection h3 with h3
      injection h3 with h3 _
      rw [Mp.add_other (fun e0 => hid2 e0.1)] at h4
      obtain ⟨g1, C1', e1', cur1, y⟩ := r.row _ _ _ _ _ e2
      have h5 := y.mp
      rw [h4] at h5
      injection h5 with h5
      injection h5 with h5 _
      exact absurd (h5.symm.trans h3.symm) (hother _ _ _ _ _ _ _ _ _ hid2 e2 y)
    · injection e2 with a1 a2 a3 a4
      subst a2
      rw [Mp.add_same] at h4
      injection h4 with h4
      injection h4 with h4 _
      rw [Mp.add_other (fun e0 => hid1 e0.1)] at h3
      obtain ⟨g1, C1', e1', cur1, y⟩ := r.row _ _ _ _ _ e1
      have h5 := y.mp
      rw [h3] at h5
      injection h5 with h5
      injection h5 with h5 _
      exact absurd (h5.symm.trans h4.symm) (hother _ _ _ _ _ _ _ _ _ hid1 e1 y)
    · rw [Mp.add_other (fun e0 => hid1 e0.1)] at h3
      rw [Mp.add_other (fun e0 => hid2 e0.1)] at h4
      exact r.inj _ _ _ _ _ _ _ _ _ _ _ _ _ _ _ e1 e2 h3 h4
  · intro id1 id2 es1 c1 es2 c2 gg h1 h2 h3 h4
    rcases getElem?_set_row h1 with ⟨rfl, e1⟩ | ⟨hid1, e1⟩
    · cases e1
    · rcases getElem?_set_row h2 with ⟨rfl, e2⟩ | ⟨hid2, e2⟩
      · cases e2
      · exact r.injM _ _ _ _ _ _ _ e1 e2 h3 h4

theorem append_ts {ts : Array TypeId} {st xt ty : TypeId} {args : Array Value} (h0 : ts[0]? = some st) (h1 : ts[1]? = some xt) : Builtin.append_ ts ty args = Builtin.append_ #[st, xt] ty args := by
  unfold Builtin.append_
  simp [h0, h1]

def GoodV (P : Program) (F : Fz) (m : Mp) (w : World) (y : AV) (h' : Heap) (s : Sem Value) : Prop :=
  ∃ v w' F' m', s.run P w = .ok v w' ∧ Ext F m F' m' ∧ VRel F' m' y v ∧ Rel F' m' h' w' ∧ Same w w'

theorem same_grown (w : World) (o : Obj) : Same w (w.drew.alloc o) := ⟨rfl, rfl, rfl, by simp, Nat.le_succ _⟩

/-- What a grown row holds. -/
theorem grown_cells {k n len cap need : Nat} {olds news : List Value} {z : Array Value} (hz : z.size = k) (ho : olds.length = len * k) (hn : news.length = n * k) (hc : len + n ≤ cap) (hneed : need = len + n) :
    (olds.toArray ++ news.toArray ++ Builtin.zeroCells z (cap - need)).size = cap * k ∧ ((olds.toArray ++ news.toArray ++ Builtin.zeroCells z (cap - need)).toList.take ((len + n) * k) = olds ++ news) := by
  subst hneed
  constructor
  · simp only [Array.size_append, List.size_toArray, size_zeroCells, hz, ho, hn, ← Nat.add_mul]
    congr 1
    omega
  · simp only [Array.toList_append]
    rw [List.take_append_of_le_length (by simp [ho, hn, ← Nat.add_mul]), List.take_of_length_le (by simp [ho, hn, ← Nat.add_mul])]

set_option maxHeartbeats 1000000 in
theorem appendE_sound {Z : List (TypeId × AV)} (hZ : ∀ t z, assoc Z t = some z → ∃ i v, P.info? t = some i ∧ i.zero = some v ∧ toV z = some v) (r : Rel F m h w) {ts : Array TypeId} {s x y : AV} {sv xv : Value} {h' : Heap} {sto : Option (Nat × Bool)} {cl : Cl}
    (ho : appendE P Z h ts s x = some (y, h', sto, cl)) (hs : VRel F m s sv) (hx : VRel F m x xv) (ty : TypeId) : GoodV P F m w y h' (Builtin.append_ ts ty #[sv, xv]) := by
  unfold appendE at ho
  split at ho
  · rename_i st xt h0 h1
    split at ho
    · rename_i e hu
      split at ho
      · rename_i i hi
        split at ho
        · rename_i z xs hz hxs
          cases hb : (Nat.beq z.cells.size i.size && Nat.ble 1 i.size && Nat.ble 1 i.bytes && Nat.ble (((sliceLen s).getD 0 + xs.length) * i.bytes) 140737488355328) with
          | false => simp [hb] at ho
          | true =>
            simp only [hb, cond_true] at ho
            simp only [Bool.and_eq_true] at hb
            obtain ⟨⟨⟨b1, b2⟩, b3⟩, b4⟩ := hb
            have ez : z.cells.size = i.size := Nat.eq_of_beq_eq_true b1
            have hk0 : 1 ≤ i.size := Nat.le_of_ble_eq_true b2
            have hby : 1 ≤ i.bytes := Nat.le_of_ble_eq_true b3
            have hbound := Nat.le_of_ble_eq_true b4
            obtain ⟨news, n1, n2, n3⟩ := srcEls_rel hZ r hi hxs hx
            have hnl : news.length = xs.length * i.size := len_of_CL n1 n2
            have app : AppIn P w st xt e i z xv xs.length news := by
              refine ⟨hu, hi, hz, ez, hk0, hnl, ?_⟩
              rcases n3 with ⟨kd, q, z', q1, q2, q3, q4, q5, q6, q7, q8⟩ | ⟨q1, q2, q3⟩
              · rw [hz] at q6
                injection q6 with q6
                subst q6
                exact .inl ⟨kd, q, q1, q2, q3, q4, q5, by rw [q5]; exact q8⟩
              · have hxt : ∃ d, P.underlying xt = some d := by
                  unfold srcEls at hxs
                  split at hxs <;> first | exact ⟨_, by assumption⟩ | cases hxs
                obtain ⟨d, hd⟩ := hxt
                exact .inr ⟨⟨d, hd, fun kd e0 => q1 kd (by rw [hd, e0])⟩, q2, fun w' hw => by have := q3 xs.length (Nat.le_refl _) w' hw; rwa [List.take_of_length_le (by omega)] at this⟩
            rw [show (Builtin.append_ ts ty #[sv, xv]) = Builtin.append_ #[st, xt] ty #[sv, xv] from append_ts h0 h1]
            have hone : ∀ c ∈ news, c.oneCell' = true := CL.one _ _ n1
            have hempty : xs.isEmpty = true → xs = [] ∧ news = [] := fun he => by
              have : xs = [] := by simpa using he
              subst this
              exact ⟨rfl, List.eq_nil_of_length_eq_zero (by simpa using hnl)⟩
            -- a new row behind a slice that had room for nothing
            have fresh : ∀ (base : Option Addr) (len cap : Nat) (l : List AV) (olds : List Value), CL F m l olds → allK i.size l = true → l.length = len → ¬ len + xs.length ≤ cap → (len + xs.length) * i.bytes ≤ 140737488355328 →
                (∀ w', w'.heap = w.heap → (Builtin.firstCells i.size len (.slice base len cap)).run P w' = .ok olds.toArray w') →
                GoodV P F m w (.sl h.length 0 0 (len + xs.length)) (newRow h i.size (l ++ xs) ⟨false, e⟩) (Builtin.append_ #[st, xt] ty #[.slice base len cap, xv]) := by
              intro base len cap l olds hl hk hlen hroom hbd hfc
              have hrun := append_grow (ty := ty) app hroom hby hbd hfc
              have hge := grownCap_ge w (len + xs.length) cap e
              have hmx : len + xs.length ≤ maxLen := by
                have : len + xs.length ≤ 140737488355328 := Nat.le_trans (Nat.le_mul_of_pos_right _ hby) hbd
                simp only [maxLen]; omega
              have hcm := grownCap_le_maxLen w (len + xs.length) cap e hmx
              generalize grownCap w (len + xs.length) cap e = NC at hrun hge hcm
              obtain ⟨c1, c2⟩ := grown_cells (z := z.cells) (cap := NC) (need := len + xs.length) ez (by rw [len_of_CL hl hk, hlen]) hnl hge rfl
              obtain ⟨r', e'⟩ := (r.of_heap (w' := w.drew) rfl).newRow (k := i.size) (C := NC) (els := l ++ xs) (ex := ⟨false, e⟩) (cells := _) hk0 c1 (by simp [hlen]; exact hge) (by simp) hcm (by rw [allK_append, hk, n2]; rfl)
                (by rw [List.length_append, hlen, c2]; exact CL_append hl n1)
              refine ⟨_, _, _, _, hrun, e', ?_, r', same_grown _ _⟩
              simp only [VRel]
              exact ⟨w.heap.size, NC, i.size, ⟨w.heap.size, 0, none⟩, Mp.add_same, by omega, rfl, rfl, by simp, by simp⟩
            unfold appendTo at ho
            split at ho
            · -- nil
              simp only [VRel] at hs
              obtain ⟨_, rfl⟩ := hs
              cases he : xs.isEmpty with
              | true =>
                simp only [he, cond_true, Option.some.injEq, Prod.mk.injEq] at ho
                obtain ⟨rfl, rfl, rfl, rfl⟩ := ho
                obtain ⟨rfl, rfl⟩ := hempty he
                have hrun := append_room (ty := ty) app (base := none) (sLen := 0) (sCap := 0) (by simp) (by simp) (w' := w) (fun ad h => by cases h) (fun _ => rfl)
                exact ⟨_, w, F, m, hrun, Ext.refl _ _, by simp [VRel, free], r, Same.refl _⟩
              | false =>
                simp only [he, cond_false, Option.some.injEq, Prod.mk.injEq] at ho
                obtain ⟨rfl, rfl, rfl, rfl⟩ := ho
                have hpos : 0 < xs.length := by cases xs with | nil => simp at he | cons => simp
                have := fresh none 0 0 [] [] (by simp [CL]) rfl rfl (by omega) (by simpa [sliceLen] using hbound) (fun w' _ => by simp [Builtin.firstCells])
                simpa using this
            · -- frozen
              rename_i k full l
              simp only [VRel] at hs
              obtain ⟨ad, cap, cs, g1, g2, g3, g4, g5, g6, rfl⟩ := hs
              cases he : xs.isEmpty with
              | true =>
                simp only [he, cond_true, Option.some.injEq, Prod.mk.injEq] at ho
                obtain ⟨rfl, rfl, rfl, rfl⟩ := ho
                obtain ⟨rfl, rfl⟩ := hempty he
                have hrun := append_room (ty := ty) app (base := some ad) (sLen := l.length) (sCap := cap) (by simpa using g5) (by simp) (w' := w) (fun ad' _ => by simp [storeCells]) (fun h => by cases h)
                refine ⟨_, w, F, m, hrun, Ext.refl _ _, ?_, r, Same.refl _⟩
                simp only [VRel]
                exact ⟨ad, cap, cs, g1, g2, g3, g4, g5, g6, by simp⟩
              | false =>
                simp only [he, cond_false] at ho
                cases hf : (full && Nat.beq k i.size) with
                | false => simp [hf] at ho
                | true =>
                  simp only [hf, cond_true, Option.some.injEq, Prod.mk.injEq] at ho
                  obtain ⟨rfl, rfl, rfl, rfl⟩ := ho
                  rw [Bool.and_eq_true] at hf
                  have ek : k = i.size := Nat.eq_of_beq_eq_true hf.2
                  subst ek
                  have hcap := g6 hf.1
                  have hpos : 0 < xs.length := by cases xs with | nil => simp at he | cons => simp
                  exact fresh (some ad) l.length cap l cs g1 g2 rfl (by omega) (by simpa [sliceLen] using hbound) (fun w' hw => run_firstCells_some w' i.size l.length ad l.length cap cs (len_of_CL g1 g2) (fun j v hj => by
                    obtain ⟨c', e', fz, f1, f2⟩ := g3 j v hj
                    rw [add_any g4]
                    simp [World.cell?, hw, r.fz _ _ f1, f2]))
            · -- an own row
              rename_i id gen off len
              split at ho
              · rename_i k g els ex hr
                cases hb2 : (Nat.beq k i.size && Nat.beq g gen && Nat.ble (off + len) els.length) with
                | false => simp [hb2] at ho
                | true =>
                  simp only [hb2, cond_true] at ho
                  simp only [Bool.and_eq_true] at hb2
                  obtain ⟨⟨c1, c2⟩, c3⟩ := hb2
                  have ek : k = i.size := Nat.eq_of_beq_eq_true c1
                  have eg : g = gen := Nat.eq_of_beq_eq_true c2
                  have hol : off + len ≤ els.length := Nat.le_of_ble_eq_true c3
                  subst ek; subst eg
                  obtain ⟨gb, C, e', cur, ad, xr, g1, g2, g3, g4, rfl⟩ := sl_row r hs hr
                  have hlC := xr.len
                  have hnb : xs.length * i.bytes ≤ 140737488355328 := Nat.le_trans (Nat.mul_le_mul_right _ (by omega)) hbound
                  cases hin : Nat.ble (off + len + xs.length) els.length with
                  | true =>
                    simp only [hin, cond_true, Option.some.injEq, Prod.mk.injEq] at ho
                    obtain ⟨rfl, rfl, rfl, rfl⟩ := ho
                    have hfit := Nat.le_of_ble_eq_true hin
                    cases hne : xs.isEmpty with
                    | true =>
                      obtain ⟨e1, e2⟩ := hempty hne
                      subst e1; subst e2
                      have hrun := append_room (ty := ty) app (base := some ad) (sLen := len) (sCap := C - off) (by simp; omega) (by simp) (w' := w) (fun ad' _ => by simp [storeCells]) (fun h => by cases h)
                      refine ⟨_, w, F, m, hrun, Ext.refl _ _, ?_, by rw [setFrom_nil, set_self_row hr]; exact r, Same.refl _⟩
                      simp only [VRel, List.length_nil, Nat.add_zero]
                      exact ⟨gb, C, i.size, ad, xr.mp, g1, g2, g3, g4, rfl⟩
                    | false =>
                      have hpos : 0 < xs.length := by cases xs with | nil => simp at hne | cons => simp
                      have hoff := g4 (by omega)
                      have hadd : ad.add (len * i.size) = ⟨gb, (off + len) * i.size, none⟩ := by rw [add_any g3, g2, hoff, ← Nat.add_mul]
                      have hmul : (off + len + xs.length) * i.size ≤ C * i.size := Nat.mul_le_mul_right _ (by omega)
                      have hsize := xr.size
                      rw [Nat.add_mul] at hmul
                      have hst := run_storeCells_at P gb ((off + len) * i.size) e' news 0 cur w xr.heap (by omega) hone
                      have hrun := append_room (ty := ty) app (base := some ad) (sLen := len) (sCap := C - off) (by omega) hnb (w' := w.setRow gb (splice cur.toList ((off + len) * i.size) news).toArray)
                        (fun ad' h => by injection h with h; subst h; rw [hadd]; simpa [splice] using hst) (fun h => by cases h)
                      refine ⟨_, _, F, m, hrun, Ext.refl _ _, ?_, ?_, same_setRow _ _ _⟩
                      · simp only [VRel]
                        exact ⟨gb, C, i.size, ad, xr.mp, by omega, g2, g3, g4, rfl⟩
                      · obtain ⟨q1, q2⟩ := CL_setFrom (i := off + len) xr.cells xr.all n1 n2 hfit
                        refine r.setRow hr xr (splice_size (by omega)) (by rw [setFrom_length]; exact xr.len) (fun h => by rw [setFrom_length]; exact xr.exact h) q2 ?_
                        rw [setFrom_length, List.toList_toArray, take_splice (by rw [hnl, ← Nat.add_mul]; exact Nat.mul_le_mul_right _ hfit) (by simp [hsize]; exact Nat.mul_le_mul_right _ xr.len)]
                        exact q1
                  | false =>
                    simp only [hin, cond_false] at ho
                    have hnfit : ¬ off + len + xs.length ≤ els.length := fun hh => by rw [Nat.ble_eq_true_of_le hh] at hin; cases hin
                    cases ho0 : (Nat.beq off 0 && Nat.beq ex.ty e) with
                    | false => simp [ho0] at ho
                    | true =>
                      simp only [ho0, cond_true, Option.some.injEq, Prod.mk.injEq] at ho
                      obtain ⟨rfl, rfl, rfl, rfl⟩ := ho
                      rw [Bool.and_eq_true] at ho0
                      have eo : off = 0 := Nat.eq_of_beq_eq_true ho0.1
                      have et : e = e' := (xr.ty.trans (Nat.eq_of_beq_eq_true ho0.2)).symm
                      subst eo
                      subst et
                      simp only [Nat.zero_add, Nat.sub_zero] at *
                      have hsize := xr.size
                      have holds : CL F m (els.take len) (cur.toList.take (len * i.size)) := by
                        have := CL_take xr.cells xr.all len
                        rw [List.take_take, Nat.min_eq_left (Nat.mul_le_mul_right _ hol)] at this
                        exact this
                      have htk := allK_take len xr.all
                      have htl : (els.take len).length = len := by simp; omega
                      have hol' : (cur.toList.take (len * i.size)).length = len * i.size := by rw [len_of_CL holds htk, htl]
                      by_cases hroom : len + xs.length ≤ C
                      · -- it had room
                        have hoff : 0 < C → ad.off = 0 := fun hp => by rw [g4 hp]; simp
                        have hadd : ad.add (len * i.size) = ⟨gb, len * i.size, none⟩ := by rw [add_any g3, g2, hoff (by omega), Nat.zero_add]
                        have hmul : (len + xs.length) * i.size ≤ C * i.size := Nat.mul_le_mul_right _ hroom
                        rw [Nat.add_mul] at hmul
                        have hst := run_storeCells_at P gb (len * i.size) e news 0 cur w xr.heap (by omega) hone
                        have hrun := append_room (ty := ty) app (base := some ad) (sLen := len) (sCap := C) hroom hnb (w' := w.setRow gb (splice cur.toList (len * i.size) news).toArray)
                          (fun ad' h => by injection h with h; subst h; rw [hadd]; simpa [splice] using hst) (fun h => by cases h)
                        have hsp : ((splice cur.toList (len * i.size) news).take ((len + xs.length) * i.size)) = cur.toList.take (len * i.size) ++ news := by
                          unfold splice
                          rw [List.take_append_of_le_length (by simp [hsize]; rw [Nat.min_eq_left (by omega), hnl, Nat.add_mul]; exact Nat.le_refl _), List.take_of_length_le]
                          simp [hsize]; rw [Nat.min_eq_left (by omega), hnl, Nat.add_mul]; exact Nat.le_refl _
                        obtain ⟨r', e2⟩ := r.regen hr xr (g' := gb) (C' := C) (els' := els.take len ++ xs) (cur' := (splice cur.toList (len * i.size) news).toArray) (e' := e) (w' := w.setRow gb (splice cur.toList (len * i.size) news).toArray)
                          (fun b o hb hbg => by rw [setRow_other w gb b _ hbg]; exact hb) (.inl rfl) xr.own (setRow_heap w gb cur _ e (0, 0) xr.heap) (by rw [splice_size (by omega), hsize]) (by simp [Nat.min_eq_left hol]; exact hroom) xr.most
                          (by rw [allK_append, htk, n2]; rfl) (by rw [List.length_append, htl, List.toList_toArray, hsp]; exact CL_append holds n1)
                        refine ⟨_, _, F, _, hrun, e2, ?_, r', same_setRow _ _ _⟩
                        simp only [VRel]
                        exact ⟨gb, C, i.size, ad, Mp.add_same, by omega, g2, g3, g4, by simp⟩
                      · -- a new block
                        have hbd : (len + xs.length) * i.bytes ≤ 140737488355328 := by simpa [sliceLen] using hbound
                        have hpos : 0 < xs.length := by omega
                        have hrun := append_grow (ty := ty) app (base := some ad) (sLen := len) (sCap := C) (olds := cur.toList.take (len * i.size)) hroom hby hbd (fun w' hw => run_firstCells_some w' i.size len ad len C _ hol' (fun j v hj => by
                          have hjl := lt_of_getElem? hj
                          have hlen0 : 0 < C := by
                            rw [hol'] at hjl
                            have : 0 < len := Nat.pos_of_mul_pos_right (Nat.lt_of_le_of_lt (Nat.zero_le _) hjl)
                            omega
                          rw [add_any g3, g2, g4 hlen0]
                          simp only [List.getElem?_take] at hj
                          split at hj
                          · simp only [World.cell?, hw, xr.heap]
                            simpa using hj
                          · cases hj))
                        have hge := grownCap_ge w (len + xs.length) C e
                        have hmx : len + xs.length ≤ maxLen := by
                          have : len + xs.length ≤ 140737488355328 := Nat.le_trans (Nat.le_mul_of_pos_right _ hby) hbd
                          simp only [maxLen]; omega
                        have hcm := grownCap_le_maxLen w (len + xs.length) C e hmx
                        generalize grownCap w (len + xs.length) C e = NC at hrun hge hcm
                        obtain ⟨q1, q2⟩ := grown_cells (z := z.cells) (cap := NC) (need := len + xs.length) ez hol' hnl hge rfl
                        obtain ⟨r', e2⟩ := r.regen hr xr (g' := w.heap.size) (C' := NC) (els' := els.take len ++ xs) (cur' := _) (e' := e) (w' := w.drew.alloc (.cells _ e))
                          (fun b o hb hbg => heap_alloc_old w.drew _ hb) (.inr (Nat.le_refl _)) (r.none_at (Nat.le_refl _)) (heap_alloc_self w.drew _) q1 (by simp [Nat.min_eq_left hol]; exact hge) hcm
                          (by rw [allK_append, htk, n2]; rfl) (by rw [List.length_append, htl, q2]; exact CL_append holds n1)
                        refine ⟨_, _, F, _, hrun, e2, ?_, r', same_grown _ _⟩
                        simp only [VRel]
                        exact ⟨w.heap.size, NC, i.size, ⟨w.heap.size, 0, none⟩, Mp.add_same, by omega, rfl, rfl, by simp, by simp⟩
              · cases ho
            · cases ho
        · cases ho
      · cases ho
    · cases ho
  · cases ho

end Go.AM

set_option linter.unusedVariables false
set_option linter.unusedSimpArgs false
namespace Go.AM
open Go

variable {F : Fz} {m : Mp} {fr : FR} {a : Act} {h : Heap} {w : World} {P : Program}

theorem GoodV.val {y : AV} {s : Sem Value} {v : Value} (r : Rel F m h w) (hr : s.run P w = .ok v w) (hv : VRel F m y v) : GoodV P F m w y h s :=
  ⟨v, w, F, m, hr, Ext.refl _ _, hv, r, Same.refl _⟩

theorem two_ts {α : Type} {ts : Array TypeId} {st xt : TypeId} (h0 : ts[0]? = some st) (h1 : ts[1]? = some xt) : True := trivial

/-! ### copy -/
theorem run_copy {dt xt e : TypeId} {k n dLen dCap sLen : Nat} {base : Option Addr} {xv : Value} {news : List Value} {w' : World} {ts : Array TypeId} {ty : TypeId} (h0 : ts[0]? = some dt) (h1 : ts[1]? = some xt)
    (hu : P.underlying dt = some (.slice e)) (hk : szOf P e = some k) (hl : (Builtin.lenOf xv).run P w = .ok sLen w) (hn : n = min sLen dLen) (hf : (Builtin.firstCells k n xv).run P w = .ok news.toArray w)
    (hst : ∀ ad, base = some ad → (storeCells ad news).run P w = .ok () w') (hno : base = none → w' = w) : (Builtin.copy_ ts ty #[.slice base dLen dCap, xv]).run P w = .ok (goInt n) w' := by
  have hn' : Nat.min sLen dLen = n := hn.symm
  unfold Builtin.copy_
  cases base with
  | none =>
    have := hno rfl
    subst this
    simp [-bind_pure_comp, h0, h1, run_underlying hu, hl, szOf_run hk, hn', hf]
  | some ad =>
    have hs := hst ad rfl
    simp [-bind_pure_comp, h0, h1, run_underlying hu, hl, szOf_run hk, hn', hf, hs]

theorem addr_eq {ad : Addr} {g o : Nat} (h1 : ad.block = g) (h2 : ad.off = o) (h3 : ad.spot = none) : ad = ⟨g, o, none⟩ := by
  obtain ⟨b0, o0, s0⟩ := ad
  subst h1; subst h2; subst h3; rfl

theorem VRel_vInt (n : Nat) : VRel F m (vInt n) (goInt n) := by simp [vInt, VRel, free, goInt]

set_option maxHeartbeats 1000000 in
theorem copyE_sound (r : Rel F m h w) {ts : Array TypeId} {d x y : AV} {dv xv : Value} {h' : Heap} {sto : Option (Nat × Bool)} {cl : Cl} (ho : copyE P h ts d x = some (y, h', sto, cl)) (hd : VRel F m d dv) (hx : VRel F m x xv) (ty : TypeId) :
    GoodV P F m w y h' (Builtin.copy_ ts ty #[dv, xv]) := by
  unfold copyE at ho
  split at ho
  · rename_i dt xt h0 h1
    split at ho
    · rename_i e hu
      split at ho
      · rename_i k hk
        split at ho
        · rename_i xs len hxs hlen
          obtain ⟨i, hi, rfl⟩ := szOf_info hk
          obtain ⟨news, n1, n2, n3⟩ := srcEls_rel (Z := []) (fun t z hz => by simp [assoc] at hz) r hi hxs hx
          obtain ⟨da, dc, rfl⟩ := sliceLen_rel hlen hd
          have hnl : news.length = xs.length * i.size := len_of_CL n1 n2
          have n3' : (∀ w', (Builtin.lenOf xv).run P w' = .ok xs.length w') ∧ (∀ n', n' ≤ xs.length → ∀ w', w'.heap = w.heap → (Builtin.firstCells i.size n' xv).run P w' = .ok (news.take (n' * i.size)).toArray w') := by
            rcases n3 with ⟨kd, q, z', q1, q2, q3, q4, q5, q6, q7, q8⟩ | ⟨q1, q2, q3⟩
            · unfold srcEls at hxs
              rw [q1] at hxs
              cases x with
              | v y => cases y with
                | int kk nn => cases kk <;> simp [assoc] at hxs
                | _ => simp at hxs
              | _ => simp at hxs
            · exact ⟨q2, q3⟩
          obtain ⟨l1, l2⟩ := n3'
          have hf := l2 (min xs.length len) (Nat.min_le_left _ _) w rfl
          have hcy : CL F m (xs.take (min xs.length len)) (news.take (min xs.length len * i.size)) := CL_take n1 n2 _
          have hky := allK_take (min xs.length len) n2
          have hyl : (xs.take (min xs.length len)).length = min xs.length len := by rw [List.length_take]; exact Nat.min_eq_left (Nat.min_le_left _ _)
          have hnl' : (news.take (min xs.length len * i.size)).length = min xs.length len * i.size := by rw [len_of_CL hcy hky, hyl]
          dsimp only at ho
          cases hz : Nat.beq (min xs.length len) 0 with
          | true =>
            simp only [hz, cond_true, Option.some.injEq, Prod.mk.injEq] at ho
            obtain ⟨rfl, rfl, rfl, rfl⟩ := ho
            have hz0 : min xs.length len = 0 := Nat.eq_of_beq_eq_true hz
            rw [hz0] at hf
            simp only [Nat.zero_mul, List.take_zero] at hf
            exact GoodV.val r (run_copy (w' := w) h0 h1 hu hk (l1 w) hz0.symm hf (fun ad _ => by simp [storeCells]) (fun _ => rfl)) (VRel_vInt 0)
          | false =>
            simp only [hz, cond_false] at ho
            have hpos : 0 < min xs.length len := Nat.pos_of_ne_zero (fun e0 => by rw [e0] at hz; simp at hz)
            have hone : ∀ c ∈ news.take (min xs.length len * i.size), c.oneCell' = true := CL.one _ _ hcy
            split at ho
            · -- an own row
              rename_i id gen off len'
              split at ho
              · rename_i k' g els ex hr
                cases hb : (Nat.beq i.size k' && Nat.beq g gen && Nat.ble (off + len) els.length) with
                | false => simp [hb] at ho
                | true =>
                  simp only [hb, cond_true, Option.some.injEq, Prod.mk.injEq] at ho
                  obtain ⟨rfl, rfl, rfl, rfl⟩ := ho
                  simp only [Bool.and_eq_true] at hb
                  obtain ⟨⟨c1, c2⟩, c3⟩ := hb
                  have ek : i.size = k' := Nat.eq_of_beq_eq_true c1
                  have eg : g = gen := Nat.eq_of_beq_eq_true c2
                  have hol : off + len ≤ els.length := Nat.le_of_ble_eq_true c3
                  subst ek; subst eg
                  obtain ⟨gb, C, e', cur, ad, xr, g1, g2, g3, g4, hv⟩ := sl_row r hd hr
                  injection hv with hv1 hv2 hv3
                  subst hv1
                  have hlC := xr.len
                  have hmin : min xs.length len ≤ len := Nat.min_le_right _ _
                  have hoff := g4 (by omega)
                  have had : ad = ⟨gb, off * i.size, none⟩ := addr_eq g2 hoff g3
                  have hmul : (off + min xs.length len) * i.size ≤ C * i.size := Nat.mul_le_mul_right _ (by omega)
                  have hsize := xr.size
                  rw [Nat.add_mul] at hmul
                  have hst := run_storeCells_at P gb (off * i.size) e' (news.take (min xs.length len * i.size)) 0 cur w xr.heap (by omega) hone
                  refine ⟨_, _, F, m, run_copy (w' := w.setRow gb (splice cur.toList (off * i.size) (news.take (min xs.length len * i.size))).toArray) h0 h1 hu hk (l1 w) rfl hf
                    (fun ad' he => by injection he with he; subst he; rw [had]; simpa [splice] using hst) (fun he => by cases he), Ext.refl _ _, VRel_vInt _, ?_, same_setRow _ _ _⟩
                  obtain ⟨q1, q2⟩ := CL_setFrom (i := off) xr.cells xr.all hcy hky (by omega)
                  refine r.setRow hr xr (splice_size (by omega)) (by rw [setFrom_length]; exact xr.len) (fun h => by rw [setFrom_length]; exact xr.exact h) q2 ?_
                  rw [setFrom_length, List.toList_toArray, take_splice (by rw [hnl', ← Nat.add_mul]; exact Nat.mul_le_mul_right _ (by omega)) (by simp [hsize]; exact Nat.mul_le_mul_right _ xr.len)]
                  exact q1
              · cases ho
            · -- a slice over an array within a row
              rename_i id gen j path o k' off len' mm
              split at ho
              · rename_i kr g els ex hr
                cases hb : (Nat.beq i.size k' && Nat.beq g gen) with
                | false => simp [hb] at ho
                | true =>
                  simp only [hb, cond_true] at ho
                  simp only [Bool.and_eq_true] at hb
                  have ek : i.size = k' := Nat.eq_of_beq_eq_true hb.1
                  have eg : g = gen := Nat.eq_of_beq_eq_true hb.2
                  subst ek; subst eg
                  split at ho
                  · rename_i z hzz
                    split at ho
                    · rename_i l hn
                      cases hb2 : (Nat.beq l.length mm && allK i.size l && Nat.ble (off + len) mm) with
                      | false => simp [hb2] at ho
                      | true =>
                        simp only [hb2, cond_true] at ho
                        simp only [Bool.and_eq_true] at hb2
                        obtain ⟨⟨c1, c2⟩, c3⟩ := hb2
                        have em : l.length = mm := Nat.eq_of_beq_eq_true c1
                        have hol : off + len ≤ mm := Nat.le_of_ble_eq_true c3
                        subst em
                        split at ho
                        · rename_i z' hput
                          simp only [Option.some.injEq, Prod.mk.injEq] at ho
                          obtain ⟨rfl, rfl, rfl, rfl⟩ := ho
                          obtain ⟨gb, C, e', cur, ad, xr, g1, g2, g3, g4, hv⟩ := isl_row r hd hr
                          injection hv with hv1 hv2 hv3
                          subst hv1
                          have hmin : min xs.length len ≤ len := Nat.min_le_right _ _
                          have hoff := g4 (by omega)
                          have had : ad = ⟨gb, j * kr + o + off * i.size, none⟩ := addr_eq g2 hoff g3
                          have hil := lt_of_getElem? hzz
                          have hmulr : j * kr + kr ≤ els.length * kr := by have := Nat.mul_le_mul_right kr (show j + 1 ≤ els.length by omega); rwa [Nat.add_mul, Nat.one_mul] at this
                          have hCr : els.length * kr ≤ C * kr := Nat.mul_le_mul_right _ xr.len
                          obtain ⟨u, u1, u2, u3⟩ := CL_get xr.cells xr.all hzz
                          have hlz : leafs z = kr := allK_get xr.all hzz
                          obtain ⟨v, v1, v2, v3, v4⟩ := nav_rel z path o _ hn u u1 u2
                          obtain ⟨v5, v6⟩ := v1.ofAgg
                          have hla : leafs (.agg l) = l.length * i.size := by simp only [leafs]; exact allK_leafs c2
                          rw [hla, hlz] at v4
                          have hvl : v.cells.toList.length = l.length * i.size := len_of_CL v6 c2
                          obtain ⟨q1, q2⟩ := CL_setFrom (i := off) v6 c2 hcy hky (by omega)
                          have hfit1 : (off + min xs.length len) * i.size ≤ l.length * i.size := Nat.mul_le_mul_right _ (by omega)
                          rw [Nat.add_mul] at hfit1
                          have hsplen : (splice v.cells.toList (off * i.size) (news.take (min xs.length len * i.size))).length = l.length * i.size := by rw [splice_length (by omega), hvl]
                          obtain ⟨v', p1, p2, p3, p4, p5⟩ := put_rel (y := .agg (setFrom l off (xs.take (min xs.length len)))) (z := .agg (splice v.cells.toList (off * i.size) (news.take (min xs.length len * i.size))).toArray)
                            (by simp only [VRel]; exact ⟨_, q1, rfl⟩) rfl z path o z' hput u u1 u2
                          have p3' : v'.cells.toList = splice u.cells.toList o (splice v.cells.toList (off * i.size) (news.take (min xs.length len * i.size))) := by simpa [Value.cells] using p3
                          have hsize := xr.size
                          have hst := run_storeCells_at P gb (j * kr + o + off * i.size) e' (news.take (min xs.length len * i.size)) 0 cur w xr.heap (by omega) hone
                          refine ⟨_, _, F, m, run_copy (w' := w.setRow gb (splice cur.toList (j * kr + o + off * i.size) (news.take (min xs.length len * i.size))).toArray) h0 h1 hu hk (l1 w) rfl hf
                            (fun ad' he => by injection he with he; subst he; rw [had]; simpa [splice] using hst) (fun he => by cases he), Ext.refl _ _, VRel_vInt _, ?_, same_setRow _ _ _⟩
                          refine r.setRow hr xr (splice_size (by omega)) (by simpa using xr.len) (by simpa using xr.exact) (allK_set xr.all (by rw [p4, hlz])) ?_
                          have hset := CL_set xr.cells xr.all hil p1 p2 (by rw [p4, hlz])
                          have hlen' : (els.set j z').length = els.length := by simp
                          rw [hlen', List.toList_toArray]
                          have goal : (splice cur.toList (j * kr + o + off * i.size) (news.take (min xs.length len * i.size))).take (els.length * kr) = splice (cur.toList.take (els.length * kr)) (j * kr) v'.cells.toList := by
                            rw [take_splice (by omega) (by simp; omega), p3', u3]
                            have hL : (cur.toList.take (els.length * kr)).length = els.length * kr := by simp; omega
                            rw [v3, u3, hla]
                            generalize cur.toList.take (els.length * kr) = L at hL
                            rw [← splice_elem (L := L) (i := j * kr) (k := kr) (by omega) (by rw [splice_length] <;> simp <;> omega)]
                            have e1 : ((List.take kr (List.drop (j * kr) L)).drop o).take (l.length * i.size) = (L.drop (j * kr + o)).take (l.length * i.size) := by
                              rw [List.drop_take, List.take_take, Nat.min_eq_left (by omega), List.drop_drop]
                            rw [e1]
                            rw [← splice_elem (L := L) (i := j * kr + o) (k := l.length * i.size) (by omega) (by omega)]
                          rw [goal]
                          exact hset
                        · cases ho
                    · cases ho
                  · cases ho
              · cases ho
            · cases ho
        · cases ho
      · cases ho
    · cases ho
  · cases ho

set_option maxHeartbeats 1000000 in
theorem copyS_sound (r : Rel F m h w) {ts : Array TypeId} {d x y : AV} {dv xv : Value} {h' : Heap} {sto : Option (Nat × Bool)} {cl : Cl} (ho : copyS P h ts d x = some (y, h', sto, cl)) (hd : VRel F m d dv) (hx : VRel F m x xv) (ty : TypeId) :
    GoodV P F m w y h' (Builtin.copy_ ts ty #[dv, xv]) := by
  unfold copyS at ho
  split at ho
  · rename_i dt xt h0 h1
    split at ho
    · rename_i e hu
      split at ho
      · rename_i k id gen off len id2 gen2 off2 len2 hk
        split at ho
        · rename_i k1 g els ex k2 g2 els2 ex2 hr hr2
          dsimp only at ho
          obtain ⟨n, hn⟩ : ∃ n, min len2 len = n := ⟨_, rfl⟩
          rw [hn] at ho
          cases hb : (Nat.beq k k1 && Nat.beq k k2 && Nat.beq g gen && Nat.beq g2 gen2 && Nat.ble (off2 + n) els2.length && Nat.ble off els.length && Nat.ble 1 n) with
          | false => simp [hb] at ho
          | true =>
            simp only [hb, cond_true, Option.some.injEq, Prod.mk.injEq] at ho
            obtain ⟨rfl, rfl, rfl, rfl⟩ := ho
            simp only [Bool.and_eq_true] at hb
            obtain ⟨⟨⟨⟨⟨⟨c1, c2⟩, c3⟩, c4⟩, c5⟩, c6⟩, c7⟩ := hb
            have ek : k = k1 := Nat.eq_of_beq_eq_true c1
            have ek2 : k = k2 := Nat.eq_of_beq_eq_true c2
            have eg : g = gen := Nat.eq_of_beq_eq_true c3
            have eg2 : g2 = gen2 := Nat.eq_of_beq_eq_true c4
            have hol2 : off2 + n ≤ els2.length := Nat.le_of_ble_eq_true c5
            have hol : off ≤ els.length := Nat.le_of_ble_eq_true c6
            have hn1 : 1 ≤ n := Nat.le_of_ble_eq_true c7
            subst ek; subst ek2; subst eg; subst eg2
            obtain ⟨gb, C, e', cur, ad, xr, g1, g2', g3, g4, hv⟩ := sl_row r hd hr
            subst hv
            obtain ⟨gb2, C2, e2, cur2, ad2, xr2, q1, q2, q3, q4, hv2⟩ := sl_row r hx hr2
            subst hv2
            have hnl : n ≤ len := by omega
            have hnl2 : n ≤ len2 := by omega
            have hoff := g4 (by omega)
            have had : ad = ⟨gb, off * k, none⟩ := addr_eq g2' hoff g3
            have hoff2 := q4 (by omega)
            have had2 : ad2 = ⟨gb2, off2 * k, none⟩ := addr_eq q2 hoff2 q3
            -- what is copied
            have src0 := CL_take (CL_drop xr2.cells xr2.all off2) (allK_drop off2 xr2.all) n
            obtain ⟨news, hnews⟩ : ∃ news, ((cur2.toList.take (els2.length * k)).drop (off2 * k)).take (n * k) = news := ⟨_, rfl⟩
            rw [hnews] at src0
            have hks := allK_take n (allK_drop off2 xr2.all)
            have hsl : ((els2.drop off2).take n).length = n := by simp; omega
            have hnl' : news.length = n * k := by rw [len_of_CL src0 hks, hsl]
            have hone := CL.one _ _ src0
            have hsz2 := xr2.size
            have hf : (Builtin.firstCells k n (.slice (some ad2) len2 (C2 - off2))).run P w = .ok news.toArray w := by
              have := run_firstCells_some (P := P) w k n ad2 len2 (C2 - off2) news hnl' (fun j v hj => by
                rw [add_any q3, q2, hoff2]
                have hj' := lt_of_getElem? hj
                rw [← hnews, List.getElem?_take_of_lt (by omega), List.getElem?_drop, List.getElem?_take] at hj
                split at hj
                · simp only [World.cell?, xr2.heap]
                  simpa using hj
                · cases hj)
              exact this
            have hsize := xr.size
            have hmul : (off + n) * k ≤ C * k := Nat.mul_le_mul_right _ (by omega)
            rw [Nat.add_mul] at hmul
            have hst := run_storeCells_at P gb (off * k) e' news 0 cur w xr.heap (by omega) hone
            refine ⟨_, _, F, m, run_copy (w' := w.setRow gb (splice cur.toList (off * k) news).toArray) h0 h1 hu hk (sLen := len2) (by rfl) hn.symm hf
              (fun ad' he => by injection he with he; subst he; rw [had]; simpa [splice] using hst) (fun he => by cases he), Ext.refl _ _, VRel_vInt _, ?_, same_setRow _ _ _⟩
            have hlC := xr.len
            have hlen : (els.take off ++ ((els2.drop off2).take n ++ els.drop (off + n))).length = off + (n + (els.length - (off + n))) := by simp; omega
            have ht := CL_take xr.cells xr.all off
            rw [List.take_take, Nat.min_eq_left (Nat.mul_le_mul_right _ hol)] at ht
            have hdr := CL_drop xr.cells xr.all (off + n)
            refine r.setRow hr xr (splice_size (by omega)) (by rw [hlen]; omega) (fun h => by rw [hlen, xr.exact h]; omega) (by rw [allK_append, allK_append, allK_take _ xr.all, hks, allK_drop _ xr.all]; rfl) ?_
            rw [hlen, List.toList_toArray]
            have e1 : (splice cur.toList (off * k) news).take ((off + (n + (els.length - (off + n)))) * k) = cur.toList.take (off * k) ++ (news ++ (cur.toList.take (els.length * k)).drop ((off + n) * k)) := by
              unfold splice
              have l1 : (cur.toList.take (off * k)).length = off * k := by simp; omega
              generalize cur.toList.take (off * k) = A at l1
              have hr1 : (off + (n + (els.length - (off + n)))) * k = off * k + (n * k + (els.length - (off + n)) * k) := by rw [Nat.add_mul, Nat.add_mul]
              have hr2 : els.length * k - (off + n) * k = (els.length - (off + n)) * k := (Nat.sub_mul _ _ _).symm
              rw [hr1, List.append_assoc, List.take_append, l1, List.take_of_length_le (l := A) (by rw [l1]; omega), Nat.add_sub_cancel_left, List.take_append, hnl', List.take_of_length_le (l := news) (by rw [hnl']; omega), Nat.add_sub_cancel_left, List.drop_take, hr2, Nat.add_mul off n k]
            rw [e1]
            exact CL_append ht (CL_append src0 hdr)
        · cases ho
      · cases ho
    · cases ho
  · cases ho

end Go.AM
