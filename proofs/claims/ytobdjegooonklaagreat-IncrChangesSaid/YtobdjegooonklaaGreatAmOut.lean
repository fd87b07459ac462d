/- Slices that grow; arguments; two rows of routes held against each other. Conditions: none. -/
import Derived.Test.YtobdjegooonklaaGreatAmTab6
set_option linter.unusedSimpArgs false
set_option linter.unusedVariables false
set_option maxRecDepth 100000
set_option maxHeartbeats 1000000
namespace Go.Proofs.YtobdjegooonklaaGreat
open Go Go.AM

theorem pos_of_at {l : List Route} {p : Pre} {k : Nat} {r : Route} (hs : Sorted l) (hok : ∀ r ∈ l, r.ok) (hk : l[k]? = some r) (hp : r.to = p) : pos l p = k ∧ has l p = true := by
  subst hp
  obtain ⟨hkl, hke⟩ := List.getElem?_eq_some_iff.1 hk
  have h0 := cmpP_self r.to (hok r (List.mem_of_getElem? hk)).1.1
  have hpos : pos l r.to = k := pos_eq (by omega) (fun j hj q hq => by
    obtain ⟨h1, h2⟩ := List.getElem?_eq_some_iff.1 hq
    have := List.pairwise_iff_getElem.1 hs j k h1 hkl hj
    rw [h2, hke] at this
    exact this) (fun q hq => by
    rw [hk] at hq
    injection hq with hq
    subst hq
    unfold cmpAt
    omega)
  refine ⟨hpos, ?_⟩
  unfold has
  rw [hpos, hk]
  simp [cmpAt, h0]

/-- What a table's routes are. -/
structure TabL (l : List Route) : Prop where
  ok : ∀ r ∈ l, r.ok
  sorted : Sorted l
  most : l.length ≤ 300
theorem doT_tab {l : List Route} (T : TabL l) {i : Inc} (hi : i.ok) : TabL (doT l i).1 := by
  unfold doT
  split
  · split
    · split
      · rename_i hh
        refine ⟨fun q hq => T.ok q ((del_sub l _).subset hq), T.sorted.sublist (del_sub l _), ?_⟩
        exact Nat.le_trans (del_sub l _).length_le T.most
      · exact T
    · exact T
  · split
    · split
      · split
        · exact T
        · rename_i hh _
          obtain ⟨r0, hr0, hto⟩ := has_some T.ok hi.2.1 hh
          refine ⟨fun q hq => ?_, sorted_set T.sorted hr0 hto.symm, by simpa using T.most⟩
          rcases List.mem_or_eq_of_mem_set hq with hq | rfl
          · exact T.ok q hq
          · exact hi.2
      · split
        · exact T
        · split
          · exact T
          · rename_i hh _ hf
            have hh' : has l i.r.to = false := by simpa using hh
            have hf' : l.length < 300 := by omega
            exact ⟨ins_ok T.ok hi.2, sorted_ins T.sorted T.ok hi.2 hh', by rw [ins_len (pos_le l _)]; omega⟩
    · exact T

/-- A slice that grows by appending, in a row of its own behind B. -/
def OutG (B : Heap) (k : Nat) (ty : TypeId) (els : List AV) (x : AV) (H : Heap) : Prop := (els = [] ∧ (x = nilS ∨ x = .lit k true []) ∧ H = B) ∨ (els ≠ [] ∧ ∃ g, x = .sl B.length g 0 els.length ∧ H = B ++ [.row k g els ⟨false, ty⟩])
theorem OutG.len {B : Heap} {k : Nat} {ty : TypeId} {els : List AV} {x : AV} {H : Heap} (o : OutG B k ty els x H) : sliceLen x = some els.length := by
  rcases o with ⟨rfl, rfl | rfl, rfl⟩ | ⟨_, g, rfl, rfl⟩ <;> rfl
theorem OutG.old {B : Heap} {k : Nat} {ty : TypeId} {els : List AV} {x : AV} {H : Heap} (o : OutG B k ty els x H) : ∀ id, id < B.length → H[id]? = B[id]? := by
  rcases o with ⟨_, _, rfl⟩ | ⟨_, g, _, rfl⟩
  · exact fun _ _ => rfl
  · exact fun id hi => List.getElem?_append_left hi
theorem OutG.app {B : Heap} {k : Nat} {ty : TypeId} {els : List AV} {x : AV} {H : Heap} (o : OutG B k ty els x H) (y : AV) (hy : idfree y = true) : ∃ x' H' s c, appendTo H ty k x [y] = some (x', H', s, c) ∧ (s = none ∨ s = some (B.length, false)) ∧ OutG B k ty (els ++ [y]) x' H' := by
  rcases o with ⟨rfl, rfl | rfl, rfl⟩ | ⟨hne, g, rfl, rfl⟩
  · exact ⟨_, _, none, _, rfl, .inl rfl, .inr ⟨by simp, 0, rfl, rfl⟩⟩
  · exact ⟨.sl H.length 0 0 1, H ++ [.row k 0 [y] ⟨false, ty⟩], none, .st H.length, by rw [Zev]; simp, .inl rfl, .inr ⟨by simp, 0, rfl, rfl⟩⟩
  · have := app_new (h := B ++ [.row k g els ⟨false, ty⟩]) (id := B.length) (gen := g) (len := els.length) (k := k) (e := ty) (xs := [y]) (els := els) (ex := ⟨false, ty⟩) (by rw [end0]; rfl) rfl rfl (by simp)
    rw [endS0] at this
    refine ⟨_, _, _, _, this, .inr (by simp [idfreeL, hy]), .inr ⟨by simp, g + 1, ?_, ?_⟩⟩
    · simp
    · simp
theorem OutG.fit {B : Heap} {k : Nat} {ty : TypeId} {els : List AV} {x : AV} {H : Heap} (o : OutG B k ty els x H) : AM.leafs x = 1 ∧ isAggA x = false ∧ isTupA x = false := by
  rcases o with ⟨rfl, rfl | rfl, rfl⟩ | ⟨_, g, rfl, rfl⟩ <;> exact ⟨rfl, rfl, rfl⟩
theorem fa_rop (r : Route) : fieldAddrE E.P 58 (.rop r.av) 0 = some (.rop r.to.av) := by
  simp only [fieldAddrE, fo_58_0, Route.av]
  rfl
theorem fa_ptr {id g i o : Nat} {p : List Nat} : fieldAddrE E.P 58 (.ptr id g i p o) 0 = some (.ptr id g i (p ++ [0]) (o + 0)) := by
  simp only [fieldAddrE, fo_58_0]
  rfl

theorem els_own {B : Heap} {k g : Nat} {els : List AV} {ex : Tag} : elsOf (B ++ [.row k g els ex]) (.sl B.length g 0 els.length) = some (k, els) := by
  simp [elsOf, bleE]
theorem idfree_routes (l : List Route) : idfreeL (l.map Route.av) = true := by
  apply idfreeL_of
  intro y hy
  obtain ⟨r, _, rfl⟩ := List.mem_map.1 hy
  exact idfree_route r
theorem RV.frz {h : Heap} {x : AV} {l : List Route} (v : RV h x l) (H : Heap) : AM.frz h.length H x = some x := by
  rcases v with ⟨rfl, rfl⟩ | ⟨b, rfl⟩ | ⟨id, g, els, ex, rfl, hr, ht⟩
  · rfl
  · simp [AM.frz, idfree_routes]
  · have := lt_of_getElem? hr
    simp [AM.frz, bltE, this]
theorem OutG.appL {B : Heap} {k : Nat} {ty : TypeId} {els : List AV} {x : AV} {H : Heap} (o : OutG B k ty els x H) (ys : List AV) (hy : idfreeL ys = true) : ∃ x' H' s c, appendTo H ty k x ys = some (x', H', s, c) ∧ (s = none ∨ s = some (B.length, false)) ∧ OutG B k ty (els ++ ys) x' H' := by
  cases ys with
  | nil =>
    rcases o with ⟨rfl, rfl | rfl, rfl⟩ | ⟨hne, g, rfl, rfl⟩
    · exact ⟨nilS, _, none, _, rfl, .inl rfl, .inl ⟨rfl, .inl rfl, rfl⟩⟩
    · exact ⟨.lit k true [], _, none, _, rfl, .inl rfl, .inl ⟨rfl, .inr rfl, rfl⟩⟩
    · have := app_none (h := B ++ [.row k g els ⟨false, ty⟩]) (id := B.length) (gen := g) (len := els.length) (k := k) (e := ty) (els := els) (ex := ⟨false, ty⟩) (by rw [end0]; rfl) (Nat.le_refl _)
      rw [endS0] at this
      exact ⟨_, _, _, _, this, .inr rfl, .inr ⟨by simpa using hne, g, by simp, by simp⟩⟩
  | cons y ys =>
    rcases o with ⟨rfl, rfl | rfl, rfl⟩ | ⟨hne, g, rfl, rfl⟩
    · exact ⟨_, _, none, _, rfl, .inl rfl, .inr ⟨by simp, 0, rfl, rfl⟩⟩
    · exact ⟨.sl H.length 0 0 (y :: ys).length, H ++ [.row k 0 (y :: ys) ⟨false, ty⟩], none, .st H.length, by rw [Zev]; simp, .inl rfl, .inr ⟨by simp, 0, rfl, rfl⟩⟩
    · have := app_new (h := B ++ [.row k g els ⟨false, ty⟩]) (id := B.length) (gen := g) (len := els.length) (k := k) (e := ty) (xs := y :: ys) (els := els) (ex := ⟨false, ty⟩) (by rw [end0]; rfl) rfl rfl (by simp)
      rw [endS0] at this
      refine ⟨_, _, _, _, this, .inr (by simp [hy]), .inr ⟨by simp, g + 1, ?_, ?_⟩⟩
      · simp
      · simp
/-- The first one: a new row, or nothing. -/
theorem OutG.app0 {B : Heap} {k : Nat} {ty : TypeId} (ys : List AV) : ∃ x' H' c, appendTo B ty k (.lit k true []) ys = some (x', H', none, c) ∧ (c = .quiet ∨ c = .st B.length) ∧ OutG B k ty ys x' H' ∧ x' ≠ nilS := by
  cases ys with
  | nil => exact ⟨.lit k true [], _, _, rfl, .inl rfl, .inl ⟨rfl, .inr rfl, rfl⟩, by simp⟩
  | cons y ys => exact ⟨.sl B.length 0 0 (y :: ys).length, B ++ [.row k 0 (y :: ys) ⟨false, ty⟩], .st B.length, by rw [Zev]; simp, .inr rfl, .inr ⟨by simp, 0, rfl, rfl⟩, by simp⟩
theorem OutG.appK {B : Heap} {k : Nat} {ty : TypeId} {els : List AV} {x : AV} {H : Heap} (o : OutG B k ty els x H) (hx : x ≠ nilS) (ys : List AV) (hy : idfreeL ys = true) : ∃ x' H' s c, appendTo H ty k x ys = some (x', H', s, c) ∧ (s = none ∨ s = some (B.length, false)) ∧ OutG B k ty (els ++ ys) x' H' ∧ x' ≠ nilS := by
  obtain ⟨x', H', s, c, h1, h2, h3⟩ := o.appL ys hy
  refine ⟨x', H', s, c, h1, h2, h3, ?_⟩
  rintro rfl
  rcases h3 with ⟨h0, _, _⟩ | ⟨_, g, h4, _⟩
  · obtain ⟨rfl, rfl⟩ := List.append_eq_nil_iff.1 h0
    rcases o with ⟨_, rfl | rfl, rfl⟩ | ⟨hne, _⟩
    · exact hx rfl
    · rw [Zev] at h1
      simp at h1
    · exact hne rfl
  · cases h4
theorem OutG.frz {B : Heap} {k : Nat} {ty : TypeId} {els : List AV} {x : AV} {H : Heap} (o : OutG B k ty els x H) (hx : x ≠ nilS) (hid : idfreeL els = true) {n0 : Nat} (hn : n0 ≤ B.length) : ∃ b, AM.frz n0 H x = some (.lit k b els) := by
  rcases o with ⟨rfl, rfl | rfl, rfl⟩ | ⟨hne, g, rfl, rfl⟩
  · exact (hx rfl).elim
  · exact ⟨true, rfl⟩
  · have hlt : ¬ (B.length < n0) := by omega
    have := els_own (B := B) (k := k) (g := g) (els := els) (ex := ⟨false, ty⟩)
    exact ⟨false, by simp [AM.frz, bltE, hlt, this, hid]⟩

theorem loop61 (n n0 : Nat) (h : Heap) (x y : AV) (a b : List Route) (sx : RV h x a) (sy : RV h y b) (ha : ∀ i ∈ a, i.ok) (hb : ∀ i ∈ b, i.ok) (hl : a.length = b.length) (hbig : a.length < 490) : ∀ (ra pa rb pb : List Route) (j : Nat) (fr : FR), pa ++ ra = a → pb ++ rb = b → pa.length = pb.length → ra.length < j → keepF (masks 61) fr = [(0, x), (1, y), (12, .v (.int .i64 (a.length : Nat))), (13, .v (.int .i64 (pa.length : Nat)))] →
    ∃ fr', (loopN (exec E (call E (n + 499)) (n + 499) 61 26 n0 (loopB Tryz.f61 0)) (masks 61) j ⟨fr, h, [], []⟩ = some (.exit 0, ⟨fr', h, [], []⟩) ∧ ra = rb) ∨
      (loopN (exec E (call E (n + 499)) (n + 499) 61 26 n0 (loopB Tryz.f61 0)) (masks 61) j ⟨fr, h, [], []⟩ = some (.ret, ⟨fr', h, [], []⟩) ∧ AM.get fr' 4 = some (.v (.bool false)) ∧ ra ≠ rb)
  | [], pa, rb, pb, j, fr, h1, h2, h3, hj, hk => by
    obtain ⟨j, rfl⟩ : ∃ i, j = i + 1 := ⟨j - 1, by simp at hj; omega⟩
    have hlen : sliceLen x = some a.length := sx.len
    have hi : ¬ ((pa.length : Int) < a.length) := by rw [← h1]; simp
    have hrb : rb = [] := by
      have : rb.length = 0 := by rw [← h1, ← h2] at hl; simp at hl; omega
      exact List.eq_nil_of_length_eq_zero this
    have he : ∃ fr', exec E (call E (n + 499)) (n + 499) 61 26 n0 (loopB Tryz.f61 0) ⟨keepF (masks 61) fr, h, [], []⟩ = some (.exit 0, ⟨fr', h, [], []⟩) := by
      rw [hk, exec_code]
      simp -implicitDefEqProofs only [simA, Nat.reduceAdd, Nat.reduceLT, Nat.reduceEqDiff, Nat.reduceLeDiff, Nat.reduceMul, Int.reduceBEq, Int.reduceBNe, Int.reduceLT, Int.reduceLE, Int.reduceAdd, Int.reduceSub, Int.reduceMul, Int.reduceNeg, Nat.reduceSub, Nat.reducePow, Nat.reduceDiv, Nat.reduceMod, ln_36, prs_61_6, und_36, sz_58, agg_58, keep_61, E_masks, masks, rows_61, Tryz.f61, hlen, hi]
      exact ⟨_, rfl⟩
    obtain ⟨fr', he⟩ := he
    exact ⟨fr', .inl ⟨loopN_out he, hrb.symm⟩⟩
  | i :: ra, pa, rb, pb, j, fr, h1, h2, h3, hj, hk => by
    obtain ⟨j, rfl⟩ : ∃ i, j = i + 1 := ⟨j - 1, by simp at hj; omega⟩
    have hlen : sliceLen x = some a.length := sx.len
    have hi : ((pa.length : Int) < a.length) := by rw [← h1]; simp; omega
    cases rb with
    | nil => rw [← h1, ← h2] at hl; simp at hl; omega
    | cons k rb =>
      have hi0 : i.ok := ha i (by rw [← h1]; simp)
      have hk0 : k.ok := hb k (by rw [← h2]; simp)
      obtain ⟨q1, qa1, qa2⟩ := sx.at (j := pa.length) (r := i) (by rw [← h1]; simp)
      obtain ⟨q2, qb1, qb2⟩ := sy.at (j := pa.length) (r := k) (by rw [h3, ← h2]; simp)
      have hil : AM.leafs i.av = 20 := Route.leafs hi0
      have hia : isAggA i.av = true := rfl
      have hkl : AM.leafs k.av = 20 := Route.leafs hk0
      have hka : isAggA k.av = true := rfl
      have hne := fun ox oy => ne58 (ox := ox) (oy := oy) hi0 hk0
      have w1 := wrapN1 (n := pa.length) (by rw [← h1] at hbig; simp at hbig; omega)
      by_cases hik : i = k
      · have hd : decide (i = k) = true := decide_eq_true hik
        have he : ∃ fr', exec E (call E (n + 499)) (n + 499) 61 26 n0 (loopB Tryz.f61 0) ⟨keepF (masks 61) fr, h, [], []⟩ = some (.normal, ⟨fr', h, [], []⟩) ∧ keepF (masks 61) fr' = [(0, x), (1, y), (12, .v (.int .i64 (a.length : Nat))), (13, .v (.int .i64 ((pa.length + 1 : Nat) : Int)))] := by
          rw [hk, exec_code]
          simp -implicitDefEqProofs only [simA, Nat.reduceAdd, Nat.reduceLT, Nat.reduceEqDiff, Nat.reduceLeDiff, Nat.reduceMul, Int.reduceBEq, Int.reduceBNe, Int.reduceLT, Int.reduceLE, Int.reduceAdd, Int.reduceSub, Int.reduceMul, Int.reduceNeg, Nat.reduceSub, Nat.reducePow, Nat.reduceDiv, Nat.reduceMod, ln_36, prs_61_6, und_36, sz_58, agg_58, keep_61, E_masks, masks, rows_61, Tryz.f61, hlen, hi, qa1, qa2, qb1, qb2, hil, hia, hkl, hka, hne, hd, w1, pairsOK]
          exact ⟨_, rfl, rfl⟩
        obtain ⟨fr1, he, hk1⟩ := he
        obtain ⟨fr', g⟩ := loop61 n n0 h x y a b sx sy ha hb hl hbig ra (pa ++ [i]) rb (pb ++ [k]) j fr1 (by rw [← h1]; simp) (by rw [← h2]; simp) (by simp [h3]) (by simp at hj; omega) (by rw [hk1]; simp)
        refine ⟨fr', ?_⟩
        rw [loopN_step he]
        rcases g with ⟨g1, g2⟩ | ⟨g1, g2, g3⟩
        · exact .inl ⟨g1, by rw [hik, g2]⟩
        · exact .inr ⟨g1, g2, fun hh => g3 (List.cons.inj hh).2⟩
      · have hd : decide (i = k) = false := decide_eq_false hik
        have he : ∃ fr', exec E (call E (n + 499)) (n + 499) 61 26 n0 (loopB Tryz.f61 0) ⟨keepF (masks 61) fr, h, [], []⟩ = some (.ret, ⟨fr', h, [], []⟩) ∧ AM.get fr' 4 = some (.v (.bool false)) := by
          rw [hk, exec_code]
          simp -implicitDefEqProofs only [simA, Nat.reduceAdd, Nat.reduceLT, Nat.reduceEqDiff, Nat.reduceLeDiff, Nat.reduceMul, Int.reduceBEq, Int.reduceBNe, Int.reduceLT, Int.reduceLE, Int.reduceAdd, Int.reduceSub, Int.reduceMul, Int.reduceNeg, Nat.reduceSub, Nat.reducePow, Nat.reduceDiv, Nat.reduceMod, ln_36, prs_61_6, und_36, sz_58, agg_58, keep_61, E_masks, masks, rows_61, Tryz.f61, hlen, hi, qa1, qa2, qb1, qb2, hil, hia, hkl, hka, hne, hd, w1, pairsOK]
          exact ⟨_, rfl, rfl⟩
        obtain ⟨fr', he, hg⟩ := he
        exact ⟨fr', .inr ⟨loopN_ret he, hg, fun hh => hik (List.cons.inj hh).1⟩⟩
theorem c61 (n : Nat) (h : Heap) (x y : AV) (a b : List Route) (sx : RV h x a) (sy : RV h y b) (ha : ∀ i ∈ a, i.ok) (hb : ∀ i ∈ b, i.ok) (hbig : a.length < 490) : call E (n + 500) 61 [x, y] h = some (.v (.bool (decide (a = b))), h, ⟨[], [], true⟩) := by
  have hlx : sliceLen x = some a.length := sx.len
  have hly : sliceLen y = some b.length := sy.len
  by_cases hl : a.length = b.length
  · have hn : ((a.length : Int) != (b.length : Int)) = false := by simp; omega
    obtain ⟨fr', ⟨g1, g2⟩ | ⟨g1, g2, g3⟩⟩ := loop61 n h.length h x y a b sx sy ha hb hl hbig a [] b [] (n + 499) [(0, x), (1, y), (12, .v (.int .i64 (a.length : Nat))), (13, .v (.int .i64 0))] rfl rfl rfl (by omega) rfl
    · simp -implicitDefEqProofs only [simA, Nat.reduceAdd, Nat.reduceLT, Nat.reduceEqDiff, Nat.reduceLeDiff, Nat.reduceMul, Int.reduceBEq, Int.reduceBNe, Int.reduceLT, Int.reduceLE, Int.reduceAdd, Int.reduceSub, Int.reduceMul, Int.reduceNeg, Nat.reduceSub, Nat.reducePow, Nat.reduceDiv, Nat.reduceMod, ln_36, prs_61_6, und_36, sz_58, agg_58, keep_61, E_masks, masks, rows_61, Tryz.f61] at g1
      rw [call_at (E := E) (f := 61) (fn := Tryz.f61) rfl Tryz.func61 rfl (Nat.le_of_ble_eq_true rfl)]
      simp -implicitDefEqProofs only [simA, Nat.reduceAdd, Nat.reduceLT, Nat.reduceEqDiff, Nat.reduceLeDiff, Nat.reduceMul, Int.reduceBEq, Int.reduceBNe, Int.reduceLT, Int.reduceLE, Int.reduceAdd, Int.reduceSub, Int.reduceMul, Int.reduceNeg, Nat.reduceSub, Nat.reducePow, Nat.reduceDiv, Nat.reduceMod, ln_36, prs_61_6, und_36, sz_58, agg_58, keep_61, E_masks, masks, rows_61, Tryz.f61, hlx, hly, hn, g1]
      simp [g2]
    · simp -implicitDefEqProofs only [simA, Nat.reduceAdd, Nat.reduceLT, Nat.reduceEqDiff, Nat.reduceLeDiff, Nat.reduceMul, Int.reduceBEq, Int.reduceBNe, Int.reduceLT, Int.reduceLE, Int.reduceAdd, Int.reduceSub, Int.reduceMul, Int.reduceNeg, Nat.reduceSub, Nat.reducePow, Nat.reduceDiv, Nat.reduceMod, ln_36, prs_61_6, und_36, sz_58, agg_58, keep_61, E_masks, masks, rows_61, Tryz.f61] at g1
      rw [call_at (E := E) (f := 61) (fn := Tryz.f61) rfl Tryz.func61 rfl (Nat.le_of_ble_eq_true rfl)]
      simp -implicitDefEqProofs only [simA, Nat.reduceAdd, Nat.reduceLT, Nat.reduceEqDiff, Nat.reduceLeDiff, Nat.reduceMul, Int.reduceBEq, Int.reduceBNe, Int.reduceLT, Int.reduceLE, Int.reduceAdd, Int.reduceSub, Int.reduceMul, Int.reduceNeg, Nat.reduceSub, Nat.reducePow, Nat.reduceDiv, Nat.reduceMod, ln_36, prs_61_6, und_36, sz_58, agg_58, keep_61, E_masks, masks, rows_61, Tryz.f61, hlx, hly, hn, g1, g2]
      simp [g3]
  · have hn : ((a.length : Int) != (b.length : Int)) = true := by simp; omega
    have hab : ¬ a = b := fun e => hl (by rw [e])
    rw [call_at (E := E) (f := 61) (fn := Tryz.f61) rfl Tryz.func61 rfl (Nat.le_of_ble_eq_true rfl)]
    simp -implicitDefEqProofs only [simA, Nat.reduceAdd, Nat.reduceLT, Nat.reduceEqDiff, Nat.reduceLeDiff, Nat.reduceMul, Int.reduceBEq, Int.reduceBNe, Int.reduceLT, Int.reduceLE, Int.reduceAdd, Int.reduceSub, Int.reduceMul, Int.reduceNeg, Nat.reduceSub, Nat.reducePow, Nat.reduceDiv, Nat.reduceMod, ln_36, prs_61_6, und_36, sz_58, agg_58, keep_61, E_masks, masks, rows_61, Tryz.f61, hlx, hly, hn]
    simp [hab]
theorem OutG.rv {B : Heap} {l : List Route} {x : AV} {H : Heap} (o : OutG B 20 58 (l.map Route.av) x H) : RV H x l := by
  rcases o with ⟨h0, rfl | rfl, rfl⟩ | ⟨hne, g, rfl, rfl⟩
  · exact .inl ⟨rfl, by simpa using h0⟩
  · exact .inr (.inl ⟨true, by rw [h0]⟩)
  · exact .inr (.inr ⟨B.length, g, l.map Route.av, _, by simp, by rw [end0]; rfl, by rw [List.take_of_length_le (by simp)]⟩)
theorem OutG.slv {B : Heap} {k : Nat} {ty : TypeId} {els : List AV} {x : AV} {H : Heap} (o : OutG B k ty els x H) : SlV H k x els := by
  rcases o with ⟨h0, rfl | rfl, rfl⟩ | ⟨hne, g, rfl, rfl⟩
  · exact .inl ⟨rfl, h0⟩
  · exact .inr (.inl ⟨true, by rw [h0]⟩)
  · exact .inr (.inr ⟨B.length, g, _, rfl, by rw [end0]; rfl⟩)
theorem OutG.grow {B : Heap} {k : Nat} {ty : TypeId} {els : List AV} {x : AV} {H : Heap} (o : OutG B k ty els x H) : B.length ≤ H.length := by
  rcases o with ⟨_, _, rfl⟩ | ⟨_, g, _, rfl⟩ <;> simp
theorem Cpy.rv {h h' : Heap} {l : List Route} {s' : AV} (c : Cpy h l s' h') : RV h' s' l := by
  rcases c with ⟨rfl, rfl, rfl⟩ | ⟨rfl, rfl, rfl⟩ | ⟨hne, rfl, rfl⟩
  · exact .inl ⟨rfl, rfl⟩
  · exact .inr (.inl ⟨true, rfl⟩)
  · exact .inr (.inr ⟨h.length, 0, l.map Route.av, _, rfl, by rw [end0]; rfl, by rw [List.take_of_length_le (by simp)]⟩)
/-- A list of routes, or of changes, given to a law. -/
def Arg (k : Nat) (x : AV) (ys : List AV) : Prop := (x = nilS ∧ ys = []) ∨ x = .lit k false ys
theorem Arg.src {k : Nat} {x : AV} {ys : List AV} (a : Arg k x ys) (h : Heap) : srS h k x = some ys := by
  rcases a with ⟨rfl, rfl⟩ | rfl
  · rfl
  · rw [Zet, if_pos rfl]
theorem Arg.slv {k : Nat} {x : AV} {ys : List AV} (a : Arg k x ys) (h : Heap) : SlV h k x ys := by
  rcases a with ⟨rfl, rfl⟩ | rfl
  · exact .inl ⟨rfl, rfl⟩
  · exact .inr (.inl ⟨_, rfl⟩)
theorem Arg.len {k : Nat} {x : AV} {ys : List AV} (a : Arg k x ys) : sliceLen x = some ys.length := by
  rcases a with ⟨rfl, rfl⟩ | rfl <;> rfl
theorem eqb_4 {ox oy : Operand} {a b : Bool} : binE E.P .eql 4 ox oy (.v (.bool a)) (.v (.bool b)) = some (.v (.bool (a == b))) := by cases a <;> cases b <;> rfl
/-- Changes copied. -/
theorem copy_inc {B : Heap} {L : List Inc} (h : L.length < 490) : ∃ y H c, apO B 60 21 56 (.lit 21 true []) (some (L.map Inc.av)) = some (y, H, none, c) ∧ OutG B 21 60 (L.map Inc.av) y H ∧ y ≠ nilS := by
  obtain ⟨y, H, c, a, _, o, hn⟩ := OutG.app0 (B := B) (k := 21) (ty := 60) (L.map Inc.av)
  exact ⟨y, H, c, by rw [Zer, if_pos (by simp [sliceLen]; omega)]; exact a, o, hn⟩
/-- Routes copied. -/
theorem copy_rt {B : Heap} {L : List Route} (h : L.length < 490) : ∃ y H c, apO B 58 20 48 (.lit 20 true []) (some (L.map Route.av)) = some (y, H, none, c) ∧ OutG B 20 58 (L.map Route.av) y H ∧ y ≠ nilS := by
  obtain ⟨y, H, c, a, _, o, hn⟩ := OutG.app0 (B := B) (k := 20) (ty := 58) (L.map Route.av)
  exact ⟨y, H, c, by rw [Zer, if_pos (by simp [sliceLen]; omega)]; exact a, o, hn⟩
theorem idfree_inc (i : Inc) : idfree i.av = true := by
  have := idfree_route i.r
  simp [Inc.av, idfree, idfreeL, this]
theorem idfree_incs (l : List Inc) : idfreeL (l.map Inc.av) = true := by
  apply idfreeL_of
  intro y hy
  obtain ⟨r, _, rfl⟩ := List.mem_map.1 hy
  exact idfree_inc r
theorem arg_routes {x : AV} (h : x = .v (.slice none 0 0) ∨ ∃ l, x = .lit 20 false l ∧ ∀ y ∈ l, ∃ r : Route, r.ok ∧ y = r.av) : ∃ R : List Route, (∀ r ∈ R, r.ok) ∧ Arg 20 x (R.map Route.av) := by
  rcases h with rfl | ⟨l, rfl, hl⟩
  · exact ⟨[], by simp, .inl ⟨rfl, rfl⟩⟩
  · obtain ⟨is, hok, rfl⟩ := all_of hl
    exact ⟨is, hok, .inr rfl⟩
theorem arg_incs {x : AV} (h : x = .v (.slice none 0 0) ∨ ∃ l, x = .lit 21 false l ∧ ∀ y ∈ l, ∃ i : Inc, i.ok ∧ y = i.av) : ∃ L : List Inc, (∀ i ∈ L, i.ok) ∧ Arg 21 x (L.map Inc.av) := by
  rcases h with rfl | ⟨l, rfl, hl⟩
  · exact ⟨[], by simp, .inl ⟨rfl, rfl⟩⟩
  · obtain ⟨is, hok, rfl⟩ := all_of hl
    exact ⟨is, hok, .inr rfl⟩

end Go.Proofs.YtobdjegooonklaaGreat
