/- Regions op by op, the lists of what is written left out. Conditions: none. -/
import Derived.Test.YtobdjegooonklaaGreatAmSeq
set_option linter.unusedVariables false
set_option linter.unusedSimpArgs false
namespace Go.AM
open Go

variable {E : Env} {K : CallK} {f : FuncId} {nt n0 : Nat} {ops : Array Oper} {fr fr' : FR} {h h' : Heap}

def outS (r : Option (St × Cl)) : Option (FR × Heap) := r.map fun p => (p.1.fr, p.1.h)

theorem stepO_lists (o : Oper) (fr : FR) (h : Heap) (ds ls ds' ls' : List Nat) : outS (stepO E K f nt n0 ops o ⟨fr, h, ds, ls⟩) = outS (stepO E K f nt n0 ops o ⟨fr, h, ds', ls'⟩) := by
  unfold stepO
  dsimp only
  split
  · split <;> rfl
  · split
    · split <;> rfl
    · rfl
  · rfl

theorem runOps_lists : ∀ (os : List Oper) (fr : FR) (h : Heap) (ds ls ds' ls' : List Nat) (cs cs' : List Cl), outR (runOps E K f nt n0 ops os ⟨fr, h, ds, ls⟩ cs) = outR (runOps E K f nt n0 ops os ⟨fr, h, ds', ls'⟩ cs')
  | [], fr, h, _, _, _, _, _, _ => rfl
  | o :: os, fr, h, ds, ls, ds', ls', cs, cs' => by
    simp only [runOps]
    have e := stepO_lists (E := E) (K := K) (f := f) (nt := nt) (n0 := n0) (ops := ops) o fr h ds ls ds' ls'
    cases h1 : stepO E K f nt n0 ops o ⟨fr, h, ds, ls⟩ with
    | none =>
      rw [h1] at e
      cases h2 : stepO E K f nt n0 ops o ⟨fr, h, ds', ls'⟩ with
      | none => rfl
      | some q => rw [h2] at e; cases e
    | some p =>
      rw [h1] at e
      cases h2 : stepO E K f nt n0 ops o ⟨fr, h, ds', ls'⟩ with
      | none => rw [h2] at e; cases e
      | some q =>
        rw [h2] at e
        obtain ⟨⟨f1, g1, d1, l1⟩, c1⟩ := p
        obtain ⟨⟨f2, g2, d2, l2⟩, c2⟩ := q
        simp only [outS, Option.map_some, Option.some.injEq, Prod.mk.injEq] at e
        obtain ⟨rfl, rfl⟩ := e
        exact runOps_lists os f1 g1 d1 l1 d2 l2 _ _

theorem run_nil : outR (runOps E K f nt n0 ops [] ⟨fr, h, [], []⟩ []) = some (fr, h) := rfl

theorem run_cons {o : Oper} {os : List Oper} {fr1 : FR} {h1 : Heap} {res : Option (FR × Heap)} (hs : outS (stepO E K f nt n0 ops o ⟨fr, h, [], []⟩) = some (fr1, h1)) (hr : outR (runOps E K f nt n0 ops os ⟨fr1, h1, [], []⟩ []) = res) :
    outR (runOps E K f nt n0 ops (o :: os) ⟨fr, h, [], []⟩ []) = res := by
  simp only [runOps]
  cases h2 : stepO E K f nt n0 ops o ⟨fr, h, [], []⟩ with
  | none => rw [h2] at hs; cases hs
  | some p =>
    rw [h2] at hs
    obtain ⟨⟨f1, g1, d1, l1⟩, c1⟩ := p
    simp only [outS, Option.map_some, Option.some.injEq, Prod.mk.injEq] at hs
    obtain ⟨rfl, rfl⟩ := hs
    rw [← hr]
    exact runOps_lists os f1 g1 d1 l1 [] [] _ _

theorem step_core {o : Oper} {x : Out} (hg : o.guard = none) (hc : coreO E K f o fr h = some x) (hp : putF nt fr o.dst x.y = some fr') : outS (stepO E K f nt n0 ops o ⟨fr, h, [], []⟩) = some (fr', x.h) := by
  unfold stepO wantedE
  simp only [hg, hc, hp]
  rfl

theorem step_load {o : Oper} {t : TypeId} {a : Operand} {p y : AV} (ho : o.op = .load t a) (hg : o.guard = none) (ha : ev fr a = some p) (hl : loadE E.P h t p = some y) (hp : putF nt fr o.dst y = some fr') :
    outS (stepO E K f nt n0 ops o ⟨fr, h, [], []⟩) = some (fr', h) := by
  refine step_core (x := outOf y h none (clsOf E f o fr)) hg ?_ hp
  unfold coreO
  simp only [ho, opE, ha, hl]

theorem step_store {o : Oper} {t : TypeId} {a x : Operand} {p y : AV} {id : Nat} (ho : o.op = .store t a x) (hg : o.guard = none) (hd : o.dst = none) (ha : ev fr a = some p) (hx : ev fr x = some y) (hs : storeE E.P h t p y = some (h', id)) :
    outS (stepO E K f nt n0 ops o ⟨fr, h, [], []⟩) = some (fr, h') := by
  refine step_core (x := outOf (.tup []) h' (some (id, !idfree y)) (clsOf E f o fr)) hg ?_ (by rw [hd]; rfl)
  unfold coreO
  simp only [ho, opE, ha, hx, hs]

theorem step_built {o : Oper} {b : Builtin} {args : Array Operand} {ts : Array TypeId} {l : List AV} {y : AV} {s : Option (Nat × Bool)} {c : Cl} (ho : o.op = .call { callee := .builtin b, args := args, argTypes := ts }) (hg : o.guard = none) (hl : evL fr args.toList = some l)
    (hb : builtinE E h b ts o.type l = some (y, h', s, c)) (hp : putF nt fr o.dst y = some fr') : outS (stepO E K f nt n0 ops o ⟨fr, h, [], []⟩) = some (fr', h') := by
  refine step_core (x := outOf y h' s c) hg ?_ (by cases s <;> exact hp) |>.trans ?_
  · unfold coreO
    simp only [ho, hl, hb]
  · cases s <;> rfl

/-! ### Rows of one thing -/
theorem store_one {P : Program} {t : TypeId} {id gen k : Nat} {z y : AV} {ex : Tag} (hs : szOf P t = some k) (hr : h[id]? = some (.row k gen [z] ex)) (hz : leafs z = k) (hy : leafs y = k) (ht : isTupA y = false) : storeE P h t (.ptr id gen 0 [] 0) y = some (h.set id (.row k gen [y] ex), id) := by
  have hp : put z [] 0 y = some y := by unfold put; simp [hz, hy]
  simp [storeE, hs, hr, hy, ht, hp]

theorem load_one {P : Program} {t : TypeId} {id gen k k' : Nat} {y : AV} {ex : Tag} {b : Bool} (hs : szOf P t = some k) (ha : aggT P t = some b) (hr : h[id]? = some (.row k' gen [y] ex)) (hy : leafs y = k) (hb : b = isAggA y) : loadE P h t (.ptr id gen 0 [] 0) = some y := by
  have hn : nav y [] 0 = some y := by unfold nav; simp
  simp [loadE, lookAt, hr, hn, partE, hs, ha, hy, hb]

theorem agg_of {x : AV} {v : Value} {k : Nat} (hx : toV x = some v) (hk : leafs x = k) (h2 : k ≠ 1) : isAggA x = true := by
  cases x with
  | agg l => rfl
  | v y => simp [leafs] at hk; omega
  | _ => simp [toV] at hx

/-- An append's growth, of one thing. -/
theorem app_one {P : Program} {Z : List (TypeId × AV)} {h : Heap} {st e : TypeId} {i : TypeInfo} {zv : Value} {k : Nat} {x : AV} (hu : P.underlying st = some (.slice e)) (hi : P.info? e = some i) (hz : i.zero = some zv) (hzs : zv.cells.size = k) (hs : i.size = k) (hk : 1 ≤ k) (hb : 1 ≤ i.bytes) (hb2 : i.bytes ≤ 1000) {s : AV} {n : Nat} (hn : sliceLen s = some n) (hn2 : n < mostSeq) :
    appendE P Z h #[st, st] s (.lit k true [x]) = appendTo h e k s [x] := by
  have h1 : (n + 1) * i.bytes ≤ 140737488355328 := by
    have : n + 1 ≤ 1000000 := hn2
    exact Nat.le_trans (Nat.mul_le_mul this hb2) (by decide)
  have e1 : Nat.beq zv.cells.size i.size = true := by rw [hzs, hs]; simp
  simp [appendE, hu, hi, hz, srcEls, elsOf, hs, hzs, hk, hb, hn, Nat.ble_eq_true_of_le h1, Nat.ble_eq_true_of_le hk, Nat.ble_eq_true_of_le hb]

theorem parts_one {k : Nat} {z x : AV} (hz : leafs z = k) (hx : leafs x = k) (ht : isTupA x = false) : setParts (fun i => some (i * k, k)) [z] [(0, x)] = some [x] := by
  have hp : put z [] 0 x = some x := by unfold put; simp [hz, hx]
  simp [setParts, hx, ht, putL, hp]

theorem step_slice1 {E : Env} {f : FuncId} {nt n0 : Nat} {ops : Array Oper} {fr fr' : FR} {h : Heap} {o : Oper} {t e : TypeId} {a : Operand} {k : Nat} {z x : AV} (ho : o.op = .buildSlice t 1 #[(0, a)]) (hg : o.guard = none) (ha : ev fr a = some x) (hu : E.P.underlying t = some (.slice e)) (hs : szOf E.P e = some k)
    (hz : E.zero e = some z) (hzk : leafs z = k) (hx : leafs x = k) (ht : isTupA x = false) (hk : 1 ≤ k) (hk2 : k ≤ 16777216) (hr : E.rows f = false) (hp : putF nt fr o.dst (.lit k true [x]) = some fr') : outS (stepO E noK f nt n0 ops o ⟨fr, h, [], []⟩) = some (fr', h) := by
  refine step_core (x := outOf (.lit k true [x]) h none (clsOf E f o fr)) hg ?_ hp
  unfold coreO
  have hb : baseE E e 1 k = some [z] := by
    simp [baseE, hz, hzk]
    rfl
  simp [ho, opE, evP, ha, hu, hs, hb, parts_one hzk hx ht, hr, hk, hk2, Nat.ble_eq_true_of_le hk, Nat.ble_eq_true_of_le hk2]

/-- The loop's body of AppendSeq: load, load, one built, appended, stored. -/
theorem rb_gen {E : Env} {f : FuncId} {ts te k : Nat} {oB : Array Oper} {z : AV} {i : TypeInfo} {zv : Value} {p1 p2 p3 p4 p5 : Oper} (hops : oB.toList = [p1, p2, p3, p4, p5])
    (h1 : p1.op = .load ts (.tmp 2) ∧ p1.guard = none ∧ p1.dst = some 8) (h2 : p2.op = .load te (.tmp 5) ∧ p2.guard = none ∧ p2.dst = some 9) (h3 : p3.op = .buildSlice ts 1 #[(0, .tmp 9)] ∧ p3.guard = none ∧ p3.dst = some 10)
    (h4 : p4.op = .call { callee := .builtin .append, args := #[.tmp 8, .tmp 10], argTypes := #[ts, ts] } ∧ p4.guard = none ∧ p4.dst = some 11) (h5 : p5.op = .store ts (.tmp 2) (.tmp 11) ∧ p5.guard = none ∧ p5.dst = none)
    (sS : szOf E.P ts = some 1) (aS : aggT E.P ts = some false) (sE : szOf E.P te = some k) (aE : aggT E.P te = some true) (hu : E.P.underlying ts = some (.slice te)) (hi : E.P.info? te = some i) (hz : i.zero = some zv) (hzs : zv.cells.size = k) (his : i.size = k) (hk : 2 ≤ k) (hk2 : k ≤ 16777216) (hb : 1 ≤ i.bytes) (hb2 : i.bytes ≤ 1000)
    (hE : E.zero te = some z) (hzk : leafs z = k) (hr : E.rows f = false) (h0 h : Heap) (n0 : Nat) (xs : List AV) (x : AV) (v : Value) (sh : Shape h0 ts te k xs h) (hlen : xs.length < mostSeq) (hx : toV x = some v) (hxk : leafs x = k) :
    ∃ fr h2, outR (runOps E noK f 13 n0 oB oB.toList ⟨[(5, .ptr h.length 0 0 [] 0), (7, x), (2, .ptr h0.length 0 0 [] 0)], h ++ [Row.row k 0 [x] ⟨true, te⟩], [], []⟩ []) = some (fr, h2) ∧ Shape h0 ts te k (xs ++ [x]) h2 := by
  obtain ⟨b, hbox, hcase⟩ := sh.box
  have hq : h0.length < h.length := (List.getElem?_eq_some_iff.1 hbox).1
  have hbox1 : (h ++ [Row.row k 0 [x] ⟨true, te⟩])[h0.length]? = some (.row 1 0 [b] ⟨true, ts⟩) := by rw [List.getElem?_append_left hq]; exact hbox
  have hbl : isAggA b = false ∧ leafs b = 1 ∧ sliceLen b = some xs.length := by
    rcases hcase with ⟨rfl, rfl⟩ | ⟨_, id, gen, ex, _, rfl, _⟩ <;> exact ⟨rfl, rfl, rfl⟩
  have hagg := agg_of hx hxk (by omega)
  have htup := isTupA_of hx
  -- what the append leaves
  have app : ∃ s2 hp3 sto c, appendTo (h ++ [Row.row k 0 [x] ⟨true, te⟩]) te k b [x] = some (s2, hp3, sto, c) ∧ leafs s2 = 1 ∧ isTupA s2 = false ∧ hp3[h0.length]? = some (.row 1 0 [b] ⟨true, ts⟩) ∧ Shape h0 ts te k (xs ++ [x]) (hp3.set h0.length (.row 1 0 [s2] ⟨true, ts⟩)) := by
    rcases hcase with ⟨rfl, rfl⟩ | ⟨hne, id, gen, ex, g1, rfl, g2, g3⟩
    · refine ⟨_, _, _, _, rfl, rfl, rfl, ?_, ?_⟩
      · simp only [AM.newRow]
        rw [List.getElem?_append_left (by simp; omega)]
        exact hbox1
      · refine ⟨fun id hid => ?_, .sl (h.length + 1) 0 0 1, ?_, .inr ⟨by simp, h.length + 1, 0, ⟨false, te⟩, by omega, by simp, ?_, rfl⟩⟩
        · rw [List.getElem?_set_ne (by omega)]
          simp only [AM.newRow]
          rw [List.getElem?_append_left (by simp; omega), List.getElem?_append_left (by omega)]
          exact sh.old id hid
        · rw [List.getElem?_set_self (by simp [AM.newRow]; omega)]
          simp
        · rw [List.getElem?_set_ne (by omega)]
          simp [AM.newRow]
          try rfl
    · have hidl := (List.getElem?_eq_some_iff.1 g2).1
      have hr1 : (h ++ [Row.row k 0 [x] ⟨true, te⟩])[id]? = some (.row k gen xs ex) := by rw [List.getElem?_append_left hidl]; exact g2
      have hnot : Nat.ble (xs.length + 1) xs.length = false := by
        cases hb0 : Nat.ble (xs.length + 1) xs.length with
        | false => rfl
        | true => have := Nat.le_of_ble_eq_true hb0; omega
      refine ⟨.sl id (gen + 1) 0 (xs.length + 1), (h ++ [Row.row k 0 [x] ⟨true, te⟩]).set id (.row k (gen + 1) (xs ++ [x]) ⟨false, te⟩), some (id, !idfreeL [x]), .w, ?_, rfl, rfl, ?_, ?_⟩
      · unfold appendTo
        simp only [hr1]
        simp [g3, hnot, Nat.ble_eq_true_of_le (Nat.le_refl xs.length)]
      · rw [List.getElem?_set_ne (by omega)]
        exact hbox1
      · refine ⟨fun i hid => ?_, .sl id (gen + 1) 0 (xs.length + 1), ?_, .inr ⟨by simp, id, gen + 1, ⟨false, te⟩, g1, by simp, ?_, rfl⟩⟩
        · rw [List.getElem?_set_ne (by omega), List.getElem?_set_ne (by omega), List.getElem?_append_left (by omega)]
          exact sh.old i hid
        · rw [List.getElem?_set_self (by simp; omega)]
        · rw [List.getElem?_set_ne (by omega), List.getElem?_set_self (by simp; omega)]
  obtain ⟨s2, hp3, sto, c, e1, e2, e3, e4, e5⟩ := app
  refine ⟨[(11, s2), (10, .lit k true [x]), (9, x), (8, b), (5, .ptr h.length 0 0 [] 0), (7, x), (2, .ptr h0.length 0 0 [] 0)], hp3.set h0.length (.row 1 0 [s2] ⟨true, ts⟩), ?_, e5⟩
  rw [hops]
  obtain ⟨a1, a2, a3⟩ := h1
  obtain ⟨b1, b2, b3⟩ := h2
  obtain ⟨c1, c2, c3⟩ := h3
  obtain ⟨d1, d2, d3⟩ := h4
  obtain ⟨f1, f2, f3⟩ := h5
  refine run_cons (fr1 := [(8, b), (5, .ptr h.length 0 0 [] 0), (7, x), (2, .ptr h0.length 0 0 [] 0)]) (h1 := h ++ [Row.row k 0 [x] ⟨true, te⟩]) (step_load a1 a2 rfl (load_one sS aS hbox1 hbl.2.1 hbl.1.symm) (by rw [a3]; rfl)) ?_
  refine run_cons (fr1 := [(9, x), (8, b), (5, .ptr h.length 0 0 [] 0), (7, x), (2, .ptr h0.length 0 0 [] 0)]) (h1 := h ++ [Row.row k 0 [x] ⟨true, te⟩]) (step_load b1 b2 rfl (load_one sE aE (show (h ++ [Row.row k 0 [x] ⟨true, te⟩])[h.length]? = some (.row k 0 [x] ⟨true, te⟩) by simp) hxk hagg.symm) (by rw [b3]; rfl)) ?_
  refine run_cons (fr1 := [(10, .lit k true [x]), (9, x), (8, b), (5, .ptr h.length 0 0 [] 0), (7, x), (2, .ptr h0.length 0 0 [] 0)]) (h1 := h ++ [Row.row k 0 [x] ⟨true, te⟩]) (step_slice1 c1 c2 rfl hu sE hE hzk hxk htup (by omega) hk2 hr (by rw [c3]; rfl)) ?_
  refine run_cons (fr1 := [(11, s2), (10, .lit k true [x]), (9, x), (8, b), (5, .ptr h.length 0 0 [] 0), (7, x), (2, .ptr h0.length 0 0 [] 0)]) (h1 := hp3) (step_built d1 d2 (l := [b, .lit k true [x]]) rfl (by
    show appendE E.P E.zeros _ #[ts, ts] b (.lit k true [x]) = _
    rw [app_one hu hi hz hzs his (by omega) hb hb2 hbl.2.2 hlen]
    exact e1) (by rw [d3]; rfl)) ?_
  refine run_cons (fr1 := [(11, s2), (10, .lit k true [x]), (9, x), (8, b), (5, .ptr h.length 0 0 [] 0), (7, x), (2, .ptr h0.length 0 0 [] 0)]) (h1 := hp3.set h0.length (.row 1 0 [s2] ⟨true, ts⟩)) (step_store f1 f2 f3 rfl rfl (store_one sS e4 hbl.2.1 e2 e3)) run_nil

/-! ### A call, from its body's run -/
theorem call_of {E : Env} {n : Nat} {f : FuncId} {fn : Func} {c : Code} {args : List AV} {h : Heap} {ex : Ex} {st : St} {rs : List AV} (ho : E.ov f = none) (hf : E.P.funcs[f]? = some fn) (hb : fn.body = some c) (hl : args.length ≤ fn.ntmps)
    (hx : exec E (call E n) n f fn.ntmps h.length c ⟨args0 0 args, h, [], []⟩ = some (ex, st)) (he : ex = .normal ∨ ex = .ret) (hr : resultsE E.P st fn.results.toList = some rs) : call E (n + 1) f args h = some (finish (E.keep f) h st (oneOrTup rs)) := by
  simp only [call, ho, hf, hb, Nat.ble_eq_true_of_le hl, cond_true, hx]
  rcases he with rfl | rfl <;> simp only [hr]

theorem exec_seq {E : Env} {K : CallK} {nl : Nat} {f : FuncId} {nt n0 : Nat} {x y : Code} {st st1 : St} {r : Option (Ex × St)} (h1 : exec E K nl f nt n0 x st = some (.normal, st1)) (h2 : exec E K nl f nt n0 y st1 = r) : exec E K nl f nt n0 (.seq x y) st = r := by
  simp only [exec, h1, h2]

theorem exec_region {E : Env} {K : CallK} {nl : Nat} {f : FuncId} {nt n0 id : Nat} {ops : Array Oper} {st st1 : St} {cs : List Cl} (h1 : runOps E K f nt n0 ops ops.toList st [] = some (st1, cs)) : exec E K nl f nt n0 (.region id ops false) st = some (.normal, st1) := by
  simp only [exec, h1, cond_false]

theorem runs_cons {E : Env} {K : CallK} {f : FuncId} {nt n0 : Nat} {ops : Array Oper} {o : Oper} {os : List Oper} {st st1 : St} {c : Cl} {cs : List Cl} {r : Option (St × List Cl)} (h1 : stepO E K f nt n0 ops o st = some (st1, c)) (h2 : runOps E K f nt n0 ops os st1 (c :: cs) = r) : runOps E K f nt n0 ops (o :: os) st cs = r := by
  simp only [runOps, h1, h2]

theorem stepO_core {E : Env} {K : CallK} {f : FuncId} {nt n0 : Nat} {ops : Array Oper} {o : Oper} {fr fr' : FR} {h : Heap} {ds ls : List Nat} {x : Out} (hg : o.guard = none) (hc : coreO E K f o fr h = some x) (hp : putF nt fr o.dst x.y = some fr') :
    stepO E K f nt n0 ops o ⟨fr, h, ds, ls⟩ = some (⟨fr', x.h, mergeLt n0 x.ds ds, mergeLt n0 x.ls ls⟩, x.c) := by
  unfold stepO wantedE
  simp only [hg, hc, hp]

theorem stepO_load {E : Env} {K : CallK} {f : FuncId} {nt n0 : Nat} {ops : Array Oper} {o : Oper} {fr fr' : FR} {h : Heap} {ds ls : List Nat} {t : TypeId} {a : Operand} {p y : AV} (ho : o.op = .load t a) (hg : o.guard = none) (ha : ev fr a = some p) (hl : loadE E.P h t p = some y) (hp : putF nt fr o.dst y = some fr') :
    stepO E K f nt n0 ops o ⟨fr, h, ds, ls⟩ = some (⟨fr', h, ds, ls⟩, clsOf E f o fr) := by
  refine stepO_core (x := outOf y h none (clsOf E f o fr)) hg ?_ hp
  unfold coreO
  simp only [ho, opE, ha, hl]

theorem sliceLen_one {s : AV} {n : Nat} (h : sliceLen s = some n) : leafs s = 1 ∧ isAggA s = false := by
  cases s <;> first | exact ⟨rfl, rfl⟩ | (simp [sliceLen] at h)

theorem load_at {P : Program} {h : Heap} {t : TypeId} {p s : AV} {k : Nat} {b : Bool} (hs : szOf P t = some k) (ha : aggT P t = some b) (hl : lookAt h p = some s) (hk : leafs s = k) (hb : b = isAggA s) : loadE P h t p = some s := by
  simp [loadE, hl, partE, hs, ha, hk, hb]

theorem lenE_slice {P : Program} {h : Heap} {t e : TypeId} {s : AV} {n : Nat} (hu : P.underlying t = some (.slice e)) (hs : sliceLen s = some n) : lenE P h #[t] s = some (vInt n, h, none, .pure) := by
  simp [lenE, hu, hs]

theorem stepO_built {E : Env} {K : CallK} {f : FuncId} {nt n0 : Nat} {ops : Array Oper} {o : Oper} {fr fr' : FR} {h h' : Heap} {ds ls : List Nat} {b : Builtin} {args : Array Operand} {ts : Array TypeId} {l : List AV} {y : AV} {c : Cl} (ho : o.op = .call { callee := .builtin b, args := args, argTypes := ts }) (hg : o.guard = none) (hl : evL fr args.toList = some l)
    (hb : builtinE E h b ts o.type l = some (y, h', none, c)) (hp : putF nt fr o.dst y = some fr') : stepO E K f nt n0 ops o ⟨fr, h, ds, ls⟩ = some (⟨fr', h', ds, ls⟩, c) := by
  refine stepO_core (x := outOf y h' none c) hg ?_ hp
  unfold coreO
  simp only [ho, hl, hb]

end Go.AM
