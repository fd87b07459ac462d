/- append, copy and the other builtins of the abstract machine are those of the real one. Conditions: none. -/
import Derived.Test.YtobdjegooonklaaGreatAmOps6
set_option linter.unusedVariables false
set_option linter.unusedSimpArgs false
namespace Go.AM
open Go

variable {F : Fz} {m : Mp} {fr : FR} {a : Act} {h : Heap} {w : World} {P : Program}

theorem set_self_row {h : Heap} {id : Nat} {r : Row} (hr : h[id]? = some r) : h.set id r = h := by
  apply List.ext_getElem?
  intro j
  rw [List.getElem?_set]
  split
  · rename_i e
    subst e
    have := lt_of_getElem? hr
    simp only [this, if_true]
    exact hr.symm
  · rfl

/-! ### Consecutive elements written -/
theorem setFrom_length : ∀ (ys l : List AV) (i : Nat), (setFrom l i ys).length = l.length
  | [], l, i => rfl
  | y :: ys, l, i => by simp [setFrom, setFrom_length ys]

theorem setFrom_nil (l : List AV) (i : Nat) : setFrom l i [] = l := rfl

theorem splice_two {l z z' : List Value} {o : Nat} (h : o + z.length + z'.length ≤ l.length) : splice (splice l o z) (o + z.length) z' = splice l o (z ++ z') := by
  unfold splice
  have e1 : (l.take o ++ z).length = o + z.length := by simp; omega
  rw [List.take_append_of_le_length (by omega), List.take_of_length_le (by omega)]
  rw [show (l.take o ++ z ++ l.drop (o + z.length)).drop (o + z.length + z'.length) = l.drop (o + (z ++ z').length) by
    rw [List.drop_append, e1, List.drop_eq_nil_of_le (by omega), List.nil_append, List.drop_drop]
    congr 1
    simp; omega]
  simp

theorem CL_setFrom {k : Nat} : ∀ {ys l : List AV} {i : Nat} {cs zs : List Value}, CL F m l cs → allK k l = true → CL F m ys zs → allK k ys = true → i + ys.length ≤ l.length →
    CL F m (setFrom l i ys) (splice cs (i * k) zs) ∧ allK k (setFrom l i ys) = true
  | [], l, i, cs, zs, hc, hk, hz, _, _ => by
    simp only [CL] at hz
    subst hz
    simp only [setFrom]
    exact ⟨by simpa [splice] using hc, hk⟩
  | y :: ys, l, i, cs, zs, hc, hk, hz, hy, hi => by
    simp only [CL] at hz
    obtain ⟨v, ds, z1, z2, z3, rfl⟩ := hz
    simp [allK] at hy
    simp only [List.length_cons] at hi
    have hs := CL_set hc hk (by omega : i < l.length) z1 z2 hy.1
    have hk' := allK_set (i := i) hk hy.1
    obtain ⟨g1, g2⟩ := CL_setFrom (i := i + 1) hs hk' z3 hy.2 (by simp; omega)
    refine ⟨?_, g2⟩
    have hv : v.cells.toList.length = k := by rw [← hy.1]; simp [VRel.size y v z1 z2]
    have hd : ds.length = ys.length * k := len_of_CL z3 hy.2
    have hcl : cs.length = l.length * k := len_of_CL hc hk
    have hle : (i + (ys.length + 1)) * k ≤ l.length * k := Nat.mul_le_mul_right _ hi
    simp only [Nat.add_mul, Nat.one_mul] at hle
    have := splice_two (l := cs) (o := i * k) (z := v.cells.toList) (z' := ds) (by omega)
    simp only [setFrom]
    rw [← this, hv, show i * k + k = (i + 1) * k by rw [Nat.add_mul, Nat.one_mul]]
    exact g1

/-! ### What is appended or copied -/
theorem srcEls_rel {Z : List (TypeId × AV)} (hZ : ∀ t z, assoc Z t = some z → ∃ i v, P.info? t = some i ∧ i.zero = some v ∧ toV z = some v) (r : Rel F m h w) {xt e : TypeId} {i : TypeInfo} {x : AV} {xs : List AV} {xv : Value}
    (hi : P.info? e = some i) (hs : srcEls P Z h xt e i.size x = some xs) (hx : VRel F m x xv) :
    ∃ news : List Value, CL F m xs news ∧ allK i.size xs = true ∧
      ((∃ kd n z, P.underlying xt = some (.int kd) ∧ xv = .int .i64 n ∧ 0 ≤ n ∧ n ≤ 16777216 ∧ xs.length = n.toNat ∧ i.zero = some z ∧ z.cells.size = i.size ∧ news = (List.replicate n.toNat z.cells.toList).flatten) ∨
       ((∀ kd, P.underlying xt ≠ some (.int kd)) ∧ (∀ w', (Builtin.lenOf xv).run P w' = .ok xs.length w') ∧ (∀ n', n' ≤ xs.length → ∀ w', w'.heap = w.heap → (Builtin.firstCells i.size n' xv).run P w' = .ok (news.take (n' * i.size)).toArray w'))) := by
  unfold srcEls at hs
  split at hs
  · -- so many zero values
    rename_i kd n hu
    split at hs
    · rename_i z hz
      cases hb : (decide (0 ≤ n) && decide (n ≤ 16777216) && Nat.beq (leafs z) i.size) with
      | false => simp [hb] at hs
      | true =>
        simp only [hb, cond_true, Option.some.injEq] at hs
        subst hs
        simp only [Bool.and_eq_true, decide_eq_true_eq] at hb
        have ek : leafs z = i.size := Nat.eq_of_beq_eq_true hb.2
        obtain ⟨i', v, i1, i2, i3⟩ := hZ e z hz
        rw [hi] at i1
        injection i1 with i1
        subst i1
        obtain ⟨g1, g2⟩ := toV_self (F := F) (m := m) z v i3
        simp only [VRel] at hx
        exact ⟨_, CL_replicate g1 g2 n.toNat, allK_replicate ek, .inl ⟨kd, n, v, hu, hx.2, hb.1.1, hb.1.2, by simp, i2, by rw [VRel.size z v g1 g2, ek], rfl⟩⟩
    · cases hs
  · -- a string
    rename_i s hu
    cases hb : Nat.beq i.size 1 with
    | false => simp [hb] at hs
    | true =>
      simp only [hb, cond_true, Option.some.injEq] at hs
      subst hs
      have e1 : i.size = 1 := Nat.eq_of_beq_eq_true hb
      simp only [VRel] at hx
      obtain ⟨_, rfl⟩ := hx
      have hl : (ofBytes s.data.toList).length = s.size := by simp [ofBytes]
      refine ⟨_, CL_bytes _, by rw [e1]; exact allK_bytes _, .inr ⟨by rw [hu]; simp, fun w' => by rw [hl]; simp [Builtin.lenOf], fun n' hn' w' _ => ?_⟩⟩
      rw [hl] at hn'
      rw [e1, Nat.mul_one]
      simp only [Builtin.firstCells, Sem.run_pure]
      congr 1
      apply Array.toList_inj.1
      simp [ByteArray.data_extract, show s.data.size = s.size from rfl]
  · -- nil
    rename_i e' hu
    injection hs with hs
    subst hs
    simp only [VRel] at hx
    obtain ⟨_, rfl⟩ := hx
    exact ⟨[], by simp [CL], rfl, .inr ⟨by rw [hu]; simp, fun w' => by simp [Builtin.lenOf], fun n' _ w' _ => by simp [Builtin.firstCells]⟩⟩
  · -- a slice
    rename_i e' hu _
    split at hs
    · rename_i k l he
      cases hb : Nat.beq i.size k with
      | false => simp [hb] at hs
      | true =>
        simp only [hb, cond_true, Option.some.injEq] at hs
        subst hs
        have e1 : i.size = k := Nat.eq_of_beq_eq_true hb
        subst e1
        obtain ⟨ad, cap, cs, els⟩ := elsOf_rel r he hx
        refine ⟨cs, els.cells, els.all, .inr ⟨by rw [hu]; simp, fun w' => by rw [els.val]; simp [Builtin.lenOf], fun n' hn' w' hw => ?_⟩⟩
        rw [els.val]
        have hlc := len_of_CL els.cells els.all
        refine run_firstCells_some w' i.size n' ad l.length cap _ (by rw [List.length_take, Nat.min_eq_left (by rw [hlc]; exact Nat.mul_le_mul_right _ hn')]) (fun j v hj => ?_)
        simp only [List.getElem?_take] at hj
        split at hj
        · have := els.mem j v hj
          simpa [World.cell?, hw] using this
        · cases hj
    · cases hs
  · cases hs

theorem zeroCells_eq {z : Array Value} {k : Nat} (hz : z.size = k) (h0 : 0 < k) (n : Nat) : Builtin.zeroCells z n = (List.replicate n z.toList).flatten.toArray := by
  apply Array.toList_inj.1
  unfold Builtin.zeroCells
  have := range_mod z k hz h0 n
  rw [hz] at this ⊢
  simpa using this

/-! ### append, as it runs -/
structure AppIn (P : Program) (w : World) (st xt e : TypeId) (i : TypeInfo) (z : Value) (xv : Value) (n : Nat) (news : List Value) : Prop where
  st : P.underlying st = some (.slice e)
  info : P.info? e = some i
  zero : i.zero = some z
  zsize : z.cells.size = i.size
  pos : 0 < i.size
  len : news.length = n * i.size
  src : (∃ kd q, P.underlying xt = some (.int kd) ∧ xv = .int .i64 q ∧ 0 ≤ q ∧ q ≤ 16777216 ∧ n = q.toNat ∧ news = (List.replicate n z.cells.toList).flatten) ∨
       ((∃ d, P.underlying xt = some d ∧ ∀ kd, d ≠ .int kd) ∧ (∀ w', (Builtin.lenOf xv).run P w' = .ok n w') ∧ (∀ w', w'.heap = w.heap → (Builtin.firstCells i.size n xv).run P w' = .ok news.toArray w'))

/-- There is room: what it writes it writes behind the slice. -/
theorem append_room {st xt e ty : TypeId} {i : TypeInfo} {z xv : Value} {n : Nat} {news : List Value} (x : AppIn P w st xt e i z xv n news) {base : Option Addr} {sLen sCap : Nat} (hroom : sLen + n ≤ sCap) (hb : n * i.bytes ≤ 140737488355328)
    {w' : World} (hst : ∀ ad, base = some ad → (storeCells (ad.add (sLen * i.size)) news).run P w = .ok () w') (hno : base = none → w' = w) :
    (Builtin.append_ #[st, xt] ty #[.slice base sLen sCap, xv]).run P w = .ok (.slice base (sLen + n) sCap) w' := by
  have hsz : ∀ w, (sizeOf e).run P w = .ok i.size w := fun w => by simp [sizeOf, typeInfo, x.info]
  have hti : ∀ w, (typeInfo e).run P w = .ok i w := fun w => by simp [typeInfo, x.info]
  have hnews0 : n * i.size = 0 → news = [] := fun h => List.eq_nil_of_length_eq_zero (by rw [x.len]; exact h)
  rcases x.src with ⟨kd, q, h1, rfl, h3, h4, h5, h6⟩ | ⟨⟨d, h1, h2⟩, h3, h4⟩
  · have hw : IntKind.i64.wrap q = q := IntWalk.i64_in q (by omega)
    have hzr : ∀ w, (zeroValue e).run P w = .ok z w := fun w => by simp [zeroValue, typeInfo, x.info, x.zero]
    have hqb : ¬ 281474976710656 < q * (i.bytes : Int) := by
      have : ((n * i.bytes : Nat) : Int) ≤ ((140737488355328 : Nat) : Int) := Int.ofNat_le.2 hb
      rw [h5] at this
      have e : ((q.toNat * i.bytes : Nat) : Int) = q * (i.bytes : Int) := by rw [Int.natCast_mul, Int.toNat_of_nonneg h3]
      omega
    have hzc := zeroCells_eq x.zsize x.pos n
    cases base with
    | none =>
      have hw' := hno rfl
      subst hw'
      by_cases h0 : n * i.size = 0
      · simp [-bind_pure_comp, Builtin.append_, run_underlying x.st, run_underlying h1, hsz, hti, asInt, asIntOf, hw, hqb, ← h5, hroom, show ¬ q < 0 by omega, h0]
      · simp [-bind_pure_comp, Builtin.append_, run_underlying x.st, run_underlying h1, hsz, hti, asInt, asIntOf, hw, hqb, ← h5, hroom, show ¬ q < 0 by omega, h0, hzr]
    | some ad =>
      have hs := hst ad rfl
      by_cases h0 : n * i.size = 0
      · rw [hnews0 h0] at hs
        simp [-bind_pure_comp, Builtin.append_, run_underlying x.st, run_underlying h1, hsz, hti, asInt, asIntOf, hw, hqb, ← h5, hroom, show ¬ q < 0 by omega, h0, hs]
      · rw [h6] at hs
        simp [-bind_pure_comp, Builtin.append_, run_underlying x.st, run_underlying h1, hsz, hti, asInt, asIntOf, hw, hqb, ← h5, hroom, show ¬ q < 0 by omega, h0, hzr, hzc, hs]
  · have hnot : ((d matches .int _) : Bool) = false := by
      cases d <;> first | rfl | exact absurd rfl (h2 _)
    cases base with
    | none =>
      have hw' := hno rfl
      subst hw'
      simp [-bind_pure_comp, Builtin.append_, run_underlying x.st, run_underlying h1, hsz, hti, hnot, h3, hroom, h4]
    | some ad =>
      have hs := hst ad rfl
      simp [-bind_pure_comp, Builtin.append_, run_underlying x.st, run_underlying h1, hsz, hti, hnot, h3, hroom, h4, hs]

theorem grown_block (w : World) (o : Obj) : w.drew.alloc o = { w.alloc o with drawn := w.drawn + 1 } := rfl

/-- There is no room: a new row. -/
theorem append_grow {st xt e ty : TypeId} {i : TypeInfo} {z xv : Value} {n : Nat} {news olds : List Value} (x : AppIn P w st xt e i z xv n news) {base : Option Addr} {sLen sCap : Nat} (hroom : ¬ sLen + n ≤ sCap) (hb1 : 1 ≤ i.bytes)
    (hb : (sLen + n) * i.bytes ≤ 140737488355328) (ho : ∀ w', w'.heap = w.heap → (Builtin.firstCells i.size sLen (.slice base sLen sCap)).run P w' = .ok olds.toArray w') :
    (Builtin.append_ #[st, xt] ty #[.slice base sLen sCap, xv]).run P w =
      .ok (.slice (some ⟨w.heap.size, 0, none⟩) (sLen + n) (grownCap w (sLen + n) sCap e))
        (w.drew.alloc (.cells (olds.toArray ++ news.toArray ++ Builtin.zeroCells z.cells (grownCap w (sLen + n) sCap e - (sLen + n))) e)) := by
  have hsz : ∀ w, (sizeOf e).run P w = .ok i.size w := fun w => by simp [sizeOf, typeInfo, x.info]
  have hti : ∀ w, (typeInfo e).run P w = .ok i w := fun w => by simp [typeInfo, x.info]
  have hzr : ∀ w, (zeroValue e).run P w = .ok z w := fun w => by simp [zeroValue, typeInfo, x.info, x.zero]
  have hnews0 : n * i.size = 0 → news = [] := fun h => List.eq_nil_of_length_eq_zero (by rw [x.len]; exact h)
  have hfit := growslice_fits (need := sLen + n) (old := sCap) (bytes := i.bytes) (by omega) hb
  have hfit' : ¬ 281474976710656 < Builtin.nextslicecap (sLen + n) sCap * i.bytes := by omega
  have hneed : sLen + n ≤ 140737488355328 := Nat.le_trans (Nat.le_mul_of_pos_right _ hb1) hb
  have hmax : ¬ (IntKind.i64.max : Int) < ((sLen + n : Nat) : Int) := by
    have : (IntKind.i64.max : Int) = 9223372036854775807 := rfl
    omega
  have hmax' : ¬ (IntKind.i64.max : Int) < (sLen : Int) + (n : Int) := by
    have : (IntKind.i64.max : Int) = 9223372036854775807 := rfl
    omega
  have hch : (choose (.appendCap (sLen + n) sCap e)).run P w = .ok (grownCap w (sLen + n) sCap e) w.drew := by simp [grownCap, Question.forced]
  have ho' := ho w.drew rfl
  have hnb : n * i.bytes ≤ 140737488355328 := Nat.le_trans (Nat.mul_le_mul_right _ (by omega)) hb
  rcases x.src with ⟨kd, q, h1, rfl, h3, h4, h5, h6⟩ | ⟨⟨d, h1, h2⟩, h3, h4⟩
  · have hw : IntKind.i64.wrap q = q := IntWalk.i64_in q (by omega)
    have hqb : ¬ 281474976710656 < q * (i.bytes : Int) := by
      have : ((n * i.bytes : Nat) : Int) ≤ ((140737488355328 : Nat) : Int) := Int.ofNat_le.2 hnb
      rw [h5] at this
      have e : ((q.toNat * i.bytes : Nat) : Int) = q * (i.bytes : Int) := by rw [Int.natCast_mul, Int.toNat_of_nonneg h3]
      omega
    have hzc := zeroCells_eq x.zsize x.pos n
    have hmax2 : ¬ (9223372036854775807 : Int) < (sLen : Int) + max q 0 := by omega
    by_cases h0 : n * i.size = 0
    · rw [hnews0 h0]
      simp [-bind_pure_comp, Builtin.append_, run_underlying x.st, run_underlying h1, hsz, hti, asInt, asIntOf, hw, hqb, ← h5, hroom, show ¬ q < 0 by omega, h0, hfit', hmax', hmax2, Question.forced, grownCap, ho', hzr, Go.newRow]
    · simp [-bind_pure_comp, Builtin.append_, run_underlying x.st, run_underlying h1, hsz, hti, asInt, asIntOf, hw, hqb, ← h5, hroom, show ¬ q < 0 by omega, h0, hfit', hmax', hmax2, Question.forced, grownCap, ho', hzr, Go.newRow, hzc, h6]
      exact congrArg (fun c => w.drew.alloc (.cells c e)) (Array.toList_inj.1 (by simp))
  · have hnot : ((d matches .int _) : Bool) = false := by
      cases d <;> first | rfl | exact absurd rfl (h2 _)
    have h4' := h4 w.drew rfl
    simp [-bind_pure_comp, Builtin.append_, run_underlying x.st, run_underlying h1, hsz, hti, hnot, h3, hroom, h4', hfit', hmax', Question.forced, grownCap, ho', hzr, Go.newRow, show ¬ i.bytes = 0 by omega]
    exact congrArg (fun c => w.drew.alloc (.cells c e)) (Array.toList_inj.1 (by simp))

end Go.AM
