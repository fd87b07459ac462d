/- Regions op by op, the lists of what is written left out. Conditions: none. -/
import Derived.Test.YtobdjegooonklaaGreatAmIn
import Derived.LoopNIn
set_option linter.unusedVariables false
set_option linter.unusedSimpArgs false
namespace Go.AM
open Go

variable {E : Env} {K : CallK} {f : FuncId} {nt n0 : Nat} {ops : Array Oper} {fr fr' : FR} {h h' : Heap}

def outS (r : Option (St × Cl)) : Option (FR × Heap) := r.map fun p => (p.1.fr, p.1.h)

theorem stepO_lists (o : Oper) (fr : FR) (h : Heap) (ds ls ds' ls' : List Nat) : outS (stepO E K f nt n0 ops o ⟨fr, h, ds, ls⟩) = outS (stepO E K f nt n0 ops o ⟨fr, h, ds', ls'⟩) := by
  unfold stepO
  dsimp only
  split
  · split <;> rfl
  · split
    · split <;> rfl
    · rfl
  · rfl

theorem runOps_lists : ∀ (os : List Oper) (fr : FR) (h : Heap) (ds ls ds' ls' : List Nat) (cs cs' : List Cl), outR (runOps E K f nt n0 ops os ⟨fr, h, ds, ls⟩ cs) = outR (runOps E K f nt n0 ops os ⟨fr, h, ds', ls'⟩ cs')
  | [], fr, h, _, _, _, _, _, _ => rfl
  | o :: os, fr, h, ds, ls, ds', ls', cs, cs' => by
    simp only [runOps]
    have e := stepO_lists (E := E) (K := K) (f := f) (nt := nt) (n0 := n0) (ops := ops) o fr h ds ls ds' ls'
    cases h1 : stepO E K f nt n0 ops o ⟨fr, h, ds, ls⟩ with
    | none =>
      rw [h1] at e
      cases h2 : stepO E K f nt n0 ops o ⟨fr, h, ds', ls'⟩ with
      | none => rfl
      | some q => rw [h2] at e; cases e
    | some p =>
      rw [h1] at e
      cases h2 : stepO E K f nt n0 ops o ⟨fr, h, ds', ls'⟩ with
      | none => rw [h2] at e; cases e
      | some q =>
        rw [h2] at e
        obtain ⟨⟨f1, g1, d1, l1⟩, c1⟩ := p
        obtain ⟨⟨f2, g2, d2, l2⟩, c2⟩ := q
        simp only [outS, Option.map_some, Option.some.injEq, Prod.mk.injEq] at e
        obtain ⟨rfl, rfl⟩ := e
        exact runOps_lists os f1 g1 d1 l1 d2 l2 _ _

theorem run_nil : outR (runOps E K f nt n0 ops [] ⟨fr, h, [], []⟩ []) = some (fr, h) := rfl

theorem run_cons {o : Oper} {os : List Oper} {fr1 : FR} {h1 : Heap} {res : Option (FR × Heap)} (hs : outS (stepO E K f nt n0 ops o ⟨fr, h, [], []⟩) = some (fr1, h1)) (hr : outR (runOps E K f nt n0 ops os ⟨fr1, h1, [], []⟩ []) = res) :
    outR (runOps E K f nt n0 ops (o :: os) ⟨fr, h, [], []⟩ []) = res := by
  simp only [runOps]
  cases h2 : stepO E K f nt n0 ops o ⟨fr, h, [], []⟩ with
  | none => rw [h2] at hs; cases hs
  | some p =>
    rw [h2] at hs
    obtain ⟨⟨f1, g1, d1, l1⟩, c1⟩ := p
    simp only [outS, Option.map_some, Option.some.injEq, Prod.mk.injEq] at hs
    obtain ⟨rfl, rfl⟩ := hs
    rw [← hr]
    exact runOps_lists os f1 g1 d1 l1 [] [] _ _

theorem step_core {o : Oper} {x : Out} (hg : o.guard = none) (hc : coreO E K f o fr h = some x) (hp : putF nt fr o.dst x.y = some fr') : outS (stepO E K f nt n0 ops o ⟨fr, h, [], []⟩) = some (fr', x.h) := by
  unfold stepO wantedE
  simp only [hg, hc, hp]
  rfl

theorem step_load {o : Oper} {t : TypeId} {a : Operand} {p y : AV} (ho : o.op = .load t a) (hg : o.guard = none) (ha : ev fr a = some p) (hl : loadE E.P h t p = some y) (hp : putF nt fr o.dst y = some fr') :
    outS (stepO E K f nt n0 ops o ⟨fr, h, [], []⟩) = some (fr', h) := by
  refine step_core (x := outOf y h none (clsOf E f o fr)) hg ?_ hp
  unfold coreO
  simp only [ho, opE, ha, hl]

theorem step_store {o : Oper} {t : TypeId} {a x : Operand} {p y : AV} {id : Nat} (ho : o.op = .store t a x) (hg : o.guard = none) (hd : o.dst = none) (ha : ev fr a = some p) (hx : ev fr x = some y) (hs : storeE E.P h t p y = some (h', id)) :
    outS (stepO E K f nt n0 ops o ⟨fr, h, [], []⟩) = some (fr, h') := by
  refine step_core (x := outOf (.tup []) h' (some (id, !idfree y)) (clsOf E f o fr)) hg ?_ (by rw [hd]; rfl)
  unfold coreO
  simp only [ho, opE, ha, hx, hs]

theorem step_built {o : Oper} {b : Builtin} {args : Array Operand} {ts : Array TypeId} {l : List AV} {y : AV} {s : Option (Nat × Bool)} {c : Cl} (ho : o.op = .call { callee := .builtin b, args := args, argTypes := ts }) (hg : o.guard = none) (hl : evL fr args.toList = some l)
    (hb : builtinE E h b ts o.type l = some (y, h', s, c)) (hp : putF nt fr o.dst y = some fr') : outS (stepO E K f nt n0 ops o ⟨fr, h, [], []⟩) = some (fr', h') := by
  refine step_core (x := outOf y h' s c) hg ?_ (by cases s <;> exact hp) |>.trans ?_
  · unfold coreO
    simp only [ho, hl, hb]
  · cases s <;> rfl

/-! ### Rows of one thing -/
theorem store_one {P : Program} {t : TypeId} {id gen k : Nat} {z y : AV} {ex : Tag} (hs : szOf P t = some k) (hr : h[id]? = some (.row k gen [z] ex)) (hz : leafs z = k) (hy : leafs y = k) (ht : isTupA y = false) : storeE P h t (.ptr id gen 0 [] 0) y = some (h.set id (.row k gen [y] ex), id) := by
  have hp : put z [] 0 y = some y := by unfold put; simp [hz, hy]
  simp [storeE, hs, hr, hy, ht, hp]

theorem load_one {P : Program} {t : TypeId} {id gen k k' : Nat} {y : AV} {ex : Tag} {b : Bool} (hs : szOf P t = some k) (ha : aggT P t = some b) (hr : h[id]? = some (.row k' gen [y] ex)) (hy : leafs y = k) (hb : b = isAggA y) : loadE P h t (.ptr id gen 0 [] 0) = some y := by
  have hn : nav y [] 0 = some y := by unfold nav; simp
  simp [loadE, lookAt, hr, hn, partE, hs, ha, hy, hb]

theorem agg_of {x : AV} {v : Value} {k : Nat} (hx : toV x = some v) (hk : leafs x = k) (h2 : k ≠ 1) : isAggA x = true := by
  cases x with
  | agg l => rfl
  | v y => simp [leafs] at hk; omega
  | _ => simp [toV] at hx

/-- An append's growth, of one thing. -/
theorem app_one {P : Program} {Z : List (TypeId × AV)} {h : Heap} {st e : TypeId} {i : TypeInfo} {zv : Value} {k : Nat} {x : AV} (hu : P.underlying st = some (.slice e)) (hi : P.info? e = some i) (hz : i.zero = some zv) (hzs : zv.cells.size = k) (hs : i.size = k) (hk : 1 ≤ k) (hb : 1 ≤ i.bytes) (hb2 : i.bytes ≤ 1000) {s : AV} {n : Nat} (hn : sliceLen s = some n) (hn2 : n < mostSeq) :
    appendE P Z h #[st, st] s (.lit k true [x]) = appendTo h e k s [x] := by
  have h1 : (n + 1) * i.bytes ≤ 140737488355328 := by
    have : n + 1 ≤ 1000000 := hn2
    exact Nat.le_trans (Nat.mul_le_mul this hb2) (by decide)
  have e1 : Nat.beq zv.cells.size i.size = true := by rw [hzs, hs]; simp
  simp [appendE, hu, hi, hz, srcEls, elsOf, hs, hzs, hk, hb, hn, Nat.ble_eq_true_of_le h1, Nat.ble_eq_true_of_le hk, Nat.ble_eq_true_of_le hb]

theorem parts_one {k : Nat} {z x : AV} (hz : leafs z = k) (hx : leafs x = k) (ht : isTupA x = false) : setParts (fun i => some (i * k, k)) [z] [(0, x)] = some [x] := by
  have hp : put z [] 0 x = some x := by unfold put; simp [hz, hx]
  simp [setParts, hx, ht, putL, hp]

theorem step_slice1 {E : Env} {f : FuncId} {nt n0 : Nat} {ops : Array Oper} {fr fr' : FR} {h : Heap} {o : Oper} {t e : TypeId} {a : Operand} {k : Nat} {z x : AV} (ho : o.op = .buildSlice t 1 #[(0, a)]) (hg : o.guard = none) (ha : ev fr a = some x) (hu : E.P.underlying t = some (.slice e)) (hs : szOf E.P e = some k)
    (hz : E.zero e = some z) (hzk : leafs z = k) (hx : leafs x = k) (ht : isTupA x = false) (hk : 1 ≤ k) (hk2 : k ≤ 16777216) (hr : E.rows f = false) (hp : putF nt fr o.dst (.lit k true [x]) = some fr') : outS (stepO E noK f nt n0 ops o ⟨fr, h, [], []⟩) = some (fr', h) := by
  refine step_core (x := outOf (.lit k true [x]) h none (newCl (.lit k true [x]) (clsOf E f o fr))) hg ?_ hp
  unfold coreO
  have hb : baseE E e 1 k = some [z] := by
    simp [baseE, hz, hzk]
    rfl
  simp [ho, opE, evP, ha, hu, hs, hb, parts_one hzk hx ht, hr, hk, hk2, Nat.ble_eq_true_of_le hk, Nat.ble_eq_true_of_le hk2]

/-- The loop's body of AppendSeq: load, load, one built, appended, stored. -/
theorem rb_gen {E : Env} {f : FuncId} {ts te k : Nat} {oB : Array Oper} {z : AV} {i : TypeInfo} {zv : Value} {p1 p2 p3 p4 p5 : Oper} (hops : oB.toList = [p1, p2, p3, p4, p5])
    (h1 : p1.op = .load ts (.tmp 2) ∧ p1.guard = none ∧ p1.dst = some 8) (h2 : p2.op = .load te (.tmp 5) ∧ p2.guard = none ∧ p2.dst = some 9) (h3 : p3.op = .buildSlice ts 1 #[(0, .tmp 9)] ∧ p3.guard = none ∧ p3.dst = some 10)
    (h4 : p4.op = .call { callee := .builtin .append, args := #[.tmp 8, .tmp 10], argTypes := #[ts, ts] } ∧ p4.guard = none ∧ p4.dst = some 11) (h5 : p5.op = .store ts (.tmp 2) (.tmp 11) ∧ p5.guard = none ∧ p5.dst = none)
    (sS : szOf E.P ts = some 1) (aS : aggT E.P ts = some false) (sE : szOf E.P te = some k) (aE : aggT E.P te = some true) (hu : E.P.underlying ts = some (.slice te)) (hi : E.P.info? te = some i) (hz : i.zero = some zv) (hzs : zv.cells.size = k) (his : i.size = k) (hk : 2 ≤ k) (hk2 : k ≤ 16777216) (hb : 1 ≤ i.bytes) (hb2 : i.bytes ≤ 1000)
    (hE : E.zero te = some z) (hzk : leafs z = k) (hr : E.rows f = false) (h0 h : Heap) (n0 : Nat) (xs : List AV) (x : AV) (v : Value) (sh : Shape h0 ts te k xs h) (hlen : xs.length < mostSeq) (hx : toV x = some v) (hxk : leafs x = k) :
    ∃ fr h2, outR (runOps E noK f 13 n0 oB oB.toList ⟨[(5, .ptr h.length 0 0 [] 0), (7, x), (2, .ptr h0.length 0 0 [] 0)], h ++ [Row.row k 0 [x] ⟨true, te⟩], [], []⟩ []) = some (fr, h2) ∧ Shape h0 ts te k (xs ++ [x]) h2 := by
  obtain ⟨b, hbox, hcase⟩ := sh.box
  have hq : h0.length < h.length := (List.getElem?_eq_some_iff.1 hbox).1
  have hbox1 : (h ++ [Row.row k 0 [x] ⟨true, te⟩])[h0.length]? = some (.row 1 0 [b] ⟨true, ts⟩) := by rw [List.getElem?_append_left hq]; exact hbox
  have hbl : isAggA b = false ∧ leafs b = 1 ∧ sliceLen b = some xs.length := by
    rcases hcase with ⟨rfl, rfl⟩ | ⟨_, id, gen, ex, _, rfl, _⟩ <;> exact ⟨rfl, rfl, rfl⟩
  have hagg := agg_of hx hxk (by omega)
  have htup := isTupA_of hx
  -- what the append leaves
  have app : ∃ s2 hp3 sto c, appendTo (h ++ [Row.row k 0 [x] ⟨true, te⟩]) te k b [x] = some (s2, hp3, sto, c) ∧ leafs s2 = 1 ∧ isTupA s2 = false ∧ hp3[h0.length]? = some (.row 1 0 [b] ⟨true, ts⟩) ∧ Shape h0 ts te k (xs ++ [x]) (hp3.set h0.length (.row 1 0 [s2] ⟨true, ts⟩)) := by
    rcases hcase with ⟨rfl, rfl⟩ | ⟨hne, id, gen, ex, g1, rfl, g2, g3⟩
    · refine ⟨_, _, _, _, rfl, rfl, rfl, ?_, ?_⟩
      · simp only [AM.newRow]
        rw [List.getElem?_append_left (by simp; omega)]
        exact hbox1
      · refine ⟨fun id hid => ?_, .sl (h.length + 1) 0 0 1, ?_, .inr ⟨by simp, h.length + 1, 0, ⟨false, te⟩, by omega, by simp, ?_, rfl⟩⟩
        · rw [List.getElem?_set_ne (by omega)]
          simp only [AM.newRow]
          rw [List.getElem?_append_left (by simp; omega), List.getElem?_append_left (by omega)]
          exact sh.old id hid
        · rw [List.getElem?_set_self (by simp [AM.newRow]; omega)]
          simp
        · rw [List.getElem?_set_ne (by omega)]
          simp [AM.newRow]
          try rfl
    · have hidl := (List.getElem?_eq_some_iff.1 g2).1
      have hr1 : (h ++ [Row.row k 0 [x] ⟨true, te⟩])[id]? = some (.row k gen xs ex) := by rw [List.getElem?_append_left hidl]; exact g2
      have hnot : Nat.ble (xs.length + 1) xs.length = false := by
        cases hb0 : Nat.ble (xs.length + 1) xs.length with
        | false => rfl
        | true => have := Nat.le_of_ble_eq_true hb0; omega
      refine ⟨.sl id (gen + 1) 0 (xs.length + 1), (h ++ [Row.row k 0 [x] ⟨true, te⟩]).set id (.row k (gen + 1) (xs ++ [x]) ⟨false, te⟩), some (id, !idfreeL [x]), .w, ?_, rfl, rfl, ?_, ?_⟩
      · unfold appendTo
        simp only [hr1]
        simp [g3, hnot, Nat.ble_eq_true_of_le (Nat.le_refl xs.length)]
      · rw [List.getElem?_set_ne (by omega)]
        exact hbox1
      · refine ⟨fun i hid => ?_, .sl id (gen + 1) 0 (xs.length + 1), ?_, .inr ⟨by simp, id, gen + 1, ⟨false, te⟩, g1, by simp, ?_, rfl⟩⟩
        · rw [List.getElem?_set_ne (by omega), List.getElem?_set_ne (by omega), List.getElem?_append_left (by omega)]
          exact sh.old i hid
        · rw [List.getElem?_set_self (by simp; omega)]
        · rw [List.getElem?_set_ne (by omega), List.getElem?_set_self (by simp; omega)]
  obtain ⟨s2, hp3, sto, c, e1, e2, e3, e4, e5⟩ := app
  refine ⟨[(11, s2), (10, .lit k true [x]), (9, x), (8, b), (5, .ptr h.length 0 0 [] 0), (7, x), (2, .ptr h0.length 0 0 [] 0)], hp3.set h0.length (.row 1 0 [s2] ⟨true, ts⟩), ?_, e5⟩
  rw [hops]
  obtain ⟨a1, a2, a3⟩ := h1
  obtain ⟨b1, b2, b3⟩ := h2
  obtain ⟨c1, c2, c3⟩ := h3
  obtain ⟨d1, d2, d3⟩ := h4
  obtain ⟨f1, f2, f3⟩ := h5
  refine run_cons (fr1 := [(8, b), (5, .ptr h.length 0 0 [] 0), (7, x), (2, .ptr h0.length 0 0 [] 0)]) (h1 := h ++ [Row.row k 0 [x] ⟨true, te⟩]) (step_load a1 a2 rfl (load_one sS aS hbox1 hbl.2.1 hbl.1.symm) (by rw [a3]; rfl)) ?_
  refine run_cons (fr1 := [(9, x), (8, b), (5, .ptr h.length 0 0 [] 0), (7, x), (2, .ptr h0.length 0 0 [] 0)]) (h1 := h ++ [Row.row k 0 [x] ⟨true, te⟩]) (step_load b1 b2 rfl (load_one sE aE (show (h ++ [Row.row k 0 [x] ⟨true, te⟩])[h.length]? = some (.row k 0 [x] ⟨true, te⟩) by simp) hxk hagg.symm) (by rw [b3]; rfl)) ?_
  refine run_cons (fr1 := [(10, .lit k true [x]), (9, x), (8, b), (5, .ptr h.length 0 0 [] 0), (7, x), (2, .ptr h0.length 0 0 [] 0)]) (h1 := h ++ [Row.row k 0 [x] ⟨true, te⟩]) (step_slice1 c1 c2 rfl hu sE hE hzk hxk htup (by omega) hk2 hr (by rw [c3]; rfl)) ?_
  refine run_cons (fr1 := [(11, s2), (10, .lit k true [x]), (9, x), (8, b), (5, .ptr h.length 0 0 [] 0), (7, x), (2, .ptr h0.length 0 0 [] 0)]) (h1 := hp3) (step_built d1 d2 (l := [b, .lit k true [x]]) rfl (by
    show appendE E.P E.zeros _ #[ts, ts] b (.lit k true [x]) = _
    rw [app_one hu hi hz hzs his (by omega) hb hb2 hbl.2.2 hlen]
    exact e1) (by rw [d3]; rfl)) ?_
  refine run_cons (fr1 := [(11, s2), (10, .lit k true [x]), (9, x), (8, b), (5, .ptr h.length 0 0 [] 0), (7, x), (2, .ptr h0.length 0 0 [] 0)]) (h1 := hp3.set h0.length (.row 1 0 [s2] ⟨true, ts⟩)) (step_store f1 f2 f3 rfl rfl (store_one sS e4 hbl.2.1 e2 e3)) run_nil

/-! ### A call, from its body's run -/
theorem call_of {E : Env} {n : Nat} {f : FuncId} {fn : Func} {c : Code} {args : List AV} {h : Heap} {ex : Ex} {st : St} {rs : List AV} (ho : E.ov f = none) (hf : E.P.funcs[f]? = some fn) (hb : fn.body = some c) (hl : args.length ≤ fn.ntmps)
    (hx : exec E (call E n) n f fn.ntmps h.length c ⟨args0 0 args, h, [], []⟩ = some (ex, st)) (he : ex = .normal ∨ ex = .ret) (hr : resultsE E.P st fn.results.toList = some rs) : call E (n + 1) f args h = some (finish (E.keep f) h st (oneOrTup rs)) := by
  simp only [call, ho, hf, hb, Nat.ble_eq_true_of_le hl, cond_true, hx]
  rcases he with rfl | rfl <;> simp only [hr]

theorem exec_seq {E : Env} {K : CallK} {nl : Nat} {f : FuncId} {nt n0 : Nat} {x y : Code} {st st1 : St} {r : Option (Ex × St)} (h1 : exec E K nl f nt n0 x st = some (.normal, st1)) (h2 : exec E K nl f nt n0 y st1 = r) : exec E K nl f nt n0 (.seq x y) st = r := by
  simp only [exec, h1, h2]

theorem exec_region {E : Env} {K : CallK} {nl : Nat} {f : FuncId} {nt n0 id : Nat} {ops : Array Oper} {st st1 : St} {cs : List Cl} (h1 : runOps E K f nt n0 ops ops.toList st [] = some (st1, cs)) : exec E K nl f nt n0 (.region id ops false) st = some (.normal, st1) := by
  simp only [exec, h1, cond_false]

theorem runs_cons {E : Env} {K : CallK} {f : FuncId} {nt n0 : Nat} {ops : Array Oper} {o : Oper} {os : List Oper} {st st1 : St} {c : Cl} {cs : List Cl} {r : Option (St × List Cl)} (h1 : stepO E K f nt n0 ops o st = some (st1, c)) (h2 : runOps E K f nt n0 ops os st1 (c :: cs) = r) : runOps E K f nt n0 ops (o :: os) st cs = r := by
  simp only [runOps, h1, h2]

theorem stepO_core {E : Env} {K : CallK} {f : FuncId} {nt n0 : Nat} {ops : Array Oper} {o : Oper} {fr fr' : FR} {h : Heap} {ds ls : List Nat} {x : Out} (hg : o.guard = none) (hc : coreO E K f o fr h = some x) (hp : putF nt fr o.dst x.y = some fr') :
    stepO E K f nt n0 ops o ⟨fr, h, ds, ls⟩ = some (⟨fr', x.h, mergeLt n0 x.ds ds, mergeLt n0 x.ls ls⟩, x.c) := by
  unfold stepO wantedE
  simp only [hg, hc, hp]

theorem stepO_load {E : Env} {K : CallK} {f : FuncId} {nt n0 : Nat} {ops : Array Oper} {o : Oper} {fr fr' : FR} {h : Heap} {ds ls : List Nat} {t : TypeId} {a : Operand} {p y : AV} (ho : o.op = .load t a) (hg : o.guard = none) (ha : ev fr a = some p) (hl : loadE E.P h t p = some y) (hp : putF nt fr o.dst y = some fr') :
    stepO E K f nt n0 ops o ⟨fr, h, ds, ls⟩ = some (⟨fr', h, ds, ls⟩, clsOf E f o fr) := by
  refine stepO_core (x := outOf y h none (clsOf E f o fr)) hg ?_ hp
  unfold coreO
  simp only [ho, opE, ha, hl]

theorem sliceLen_one {s : AV} {n : Nat} (h : sliceLen s = some n) : leafs s = 1 ∧ isAggA s = false := by
  cases s <;> first | exact ⟨rfl, rfl⟩ | (simp [sliceLen] at h)

theorem load_at {P : Program} {h : Heap} {t : TypeId} {p s : AV} {k : Nat} {b : Bool} (hs : szOf P t = some k) (ha : aggT P t = some b) (hl : lookAt h p = some s) (hk : leafs s = k) (hb : b = isAggA s) : loadE P h t p = some s := by
  simp [loadE, hl, partE, hs, ha, hk, hb]

theorem lenE_slice {P : Program} {h : Heap} {t e : TypeId} {s : AV} {n : Nat} (hu : P.underlying t = some (.slice e)) (hs : sliceLen s = some n) : lenE P h #[t] s = some (vInt n, h, none, .pure) := by
  simp [lenE, hu, hs]

theorem stepO_built {E : Env} {K : CallK} {f : FuncId} {nt n0 : Nat} {ops : Array Oper} {o : Oper} {fr fr' : FR} {h h' : Heap} {ds ls : List Nat} {b : Builtin} {args : Array Operand} {ts : Array TypeId} {l : List AV} {y : AV} {c : Cl} (ho : o.op = .call { callee := .builtin b, args := args, argTypes := ts }) (hg : o.guard = none) (hl : evL fr args.toList = some l)
    (hb : builtinE E h b ts o.type l = some (y, h', none, c)) (hp : putF nt fr o.dst y = some fr') : stepO E K f nt n0 ops o ⟨fr, h, ds, ls⟩ = some (⟨fr', h', ds, ls⟩, c) := by
  refine stepO_core (x := outOf y h' none c) hg ?_ hp
  unfold coreO
  simp only [ho, hl, hb]

end Go.AM

set_option linter.unusedVariables false
set_option linter.unusedSimpArgs false
namespace Go.AM
open Go

variable {F F' : Fz} {m m' : Mp} {fr : FR} {a : Act} {h : Heap} {w : World} {P : Program}

theorem range_run {t kt e : TypeId} {g c : Nat} {es : Array MapEntry} (hu : P.underlying t = some (.map kt e)) (hg : w.heap[g]? = some (.map es c)) :
    (Instr.range t (.map (some g))).run P w = .ok (.pointer (some ⟨w.heap.size, 0, none⟩)) (w.alloc (.mapIter (some g) c #[] c)) := by
  simp [-bind_pure_comp, Instr.range, run_underlying hu, getObj_run hg]

theorem getIter_run {b g c s : Nat} {seen : Array Nat} (hb : w.heap[b]? = some (.mapIter (some g) c seen s)) : (getObj b).run P w = .ok (.mapIter (some g) c seen s) w := by
  simp [getObj, Sem.run, hb]

theorem setIter_run {b g c s : Nat} {seen : Array Nat} (o : Obj) (hb : w.heap[b]? = some (.mapIter (some g) c seen s)) : (setObj b o).run P w = .ok () (w.putObj b o) := by
  simp [setObj, Sem.run, hb, World.putObj]

theorem filter_none {es : Array MapEntry} {c : Nat} {p : MapEntry → Bool} (hlt : ∀ e ∈ es, e.born < c) : (es.filter p).filter (fun e => decide (e.born ≥ c)) = #[] := by
  rw [Array.filter_eq_empty_iff]
  intro e he
  have := hlt e (Array.mem_of_mem_filter he)
  simp; omega

theorem filter_all {es : Array MapEntry} {c : Nat} {p : MapEntry → Bool} (hlt : ∀ e ∈ es, e.born < c) : (es.filter p).filter (fun e => decide (e.born < c)) = es.filter p := by
  rw [Array.filter_eq_self]
  intro e he
  have := hlt e (Array.mem_of_mem_filter he)
  simpa using this

theorem choose_run {n : Nat} (hn : 0 < n) (w : World) : ∃ j w1, j < n ∧ (choose (.mapNext n)).run P w = .ok j w1 ∧ w1.heap = w.heap ∧ w1.os = w.os ∧ w1.tape = w.tape ∧ w1.output = w.output ∧ w.drawn ≤ w1.drawn := by
  by_cases h1 : n ≤ 1
  · exact ⟨0, w, hn, by simp [choose, Sem.run, Question.forced, h1], rfl, rfl, rfl, rfl, Nat.le_refl _⟩
  · exact ⟨_, { w with drawn := w.drawn + 1 }, Nat.mod_lt (w.tape w.drawn (.mapNext n)) hn, by simp [choose, Sem.run, Question.forced, h1, Question.cut], rfl, rfl, rfl, rfl, Nat.le_succ _⟩

/-- A step of the walk: over, or an entry that has not come. -/
theorem next_run {b g c : Nat} {seen : Array Nat} {es : Array MapEntry} (hb : w.heap[b]? = some (.mapIter (some g) c seen c)) (hg : w.heap[g]? = some (.map es c)) (hlt : ∀ e ∈ es, e.born < c) (ty : TypeId) :
    ((es.filter fun e => !seen.contains e.born) = #[] ∧ (Instr.next (.pointer (some ⟨b, 0, none⟩)) false ty).run P w = .ok (.tuple #[.bool false]) w) ∨
    ∃ e w', e ∈ es ∧ seen.contains e.born = false ∧ (Instr.next (.pointer (some ⟨b, 0, none⟩)) false ty).run P w = .ok (.tuple #[.bool true, e.key, e.val]) w' ∧
      w'.heap = w.heap.setIfInBounds b (.mapIter (some g) c (seen.push e.born) c) ∧ w'.os = w.os ∧ w'.tape = w.tape ∧ w'.output = w.output ∧ w.drawn ≤ w'.drawn := by
  have hst : ¬ ((!seen.isEmpty && !es.isEmpty && es.all (fun e => decide (e.born ≥ c))) = true) := by
    intro hh
    simp only [Bool.and_eq_true] at hh
    obtain ⟨⟨_, h1⟩, h2⟩ := hh
    have hne : 0 < es.size := by
      rcases Nat.eq_zero_or_pos es.size with h0 | h0
      · have : es = #[] := Array.eq_empty_of_size_eq_zero h0
        simp [this] at h1
      · exact h0
    have hm : es[0] ∈ es := Array.getElem_mem hne
    have := hlt _ hm
    rw [Array.all_eq_true] at h2
    have := h2 0 hne
    simp at this
    omega
  have hnew := filter_none (p := fun e => !seen.contains e.born) hlt
  have hold := filter_all (p := fun e => !seen.contains e.born) hlt
  by_cases hem : (es.filter fun e => !seen.contains e.born) = #[]
  · left
    refine ⟨hem, ?_⟩
    simp only [Instr.next, Sem.run_bind, getIter_run hb, Result.andThen_ok, getObj_run hg, hst, hold, hnew, hem]
    simp [-bind_pure_comp, choose, Sem.run, Question.forced]
  · right
    obtain ⟨L, hL⟩ : ∃ L, (es.filter fun e => !seen.contains e.born) = L := ⟨_, rfl⟩
    rw [hL] at hem hold hnew
    have hsz : 0 < L.size := by
      rcases Nat.eq_zero_or_pos L.size with h0 | h0
      · exact (hem (Array.eq_empty_of_size_eq_zero h0)).elim
      · exact h0
    obtain ⟨j, w1, hj, hch, e1, e2, e3, e4, e5⟩ := choose_run (P := P) hsz w
    have hmem : L[j] ∈ es.filter fun e => !seen.contains e.born := by rw [hL]; exact Array.getElem_mem hj
    have hb1 : w1.heap[b]? = some (.mapIter (some g) c seen c) := by rw [e1]; exact hb
    refine ⟨L[j], w1.putObj b (.mapIter (some g) c (seen.push L[j].born) c), Array.mem_of_mem_filter hmem, ?_, ?_, by simp [World.putObj, e1], e2, e3, e4, e5⟩
    · have := (Array.mem_filter.1 hmem).2
      simpa using this
    · have hie : L.isEmpty = false := by simpa [Array.isEmpty] using fun h0 => hem (Array.eq_empty_of_size_eq_zero h0)
      have hcand : ((if (false : Bool) = true then #[none] else #[]) ++ Array.map some (L ++ #[]) : Array (Option MapEntry)) = L.map some := by simp
      have hsize : (L.map some).size = L.size := by simp
      have hget : (L.map some)[j]? = some (some L[j]) := by simp [hj]
      simp only [Instr.next, Sem.run_bind, getIter_run hb, Result.andThen_ok, getObj_run hg, hst, hL, hold, hnew, hie, if_false, hcand, hsize, hch, hget]
      rw [if_neg (by simp)]
      simp only [Sem.run_bind, hch, Result.andThen_ok, hget]
      simp [-bind_pure_comp, setIter_run _ hb1]

theorem entry_run {b g c s : Nat} {seen : Array Nat} {es : Array MapEntry} {e : MapEntry} (hb : w.heap[b]? = some (.mapIter (some g) c (seen.push s) c)) (hg : w.heap[g]? = some (.map es c)) (he : es.find? (fun x => x.born == s) = some e) :
    (Instr.entry (.pointer (some ⟨b, 0, none⟩))).run P w = .ok (.tuple #[e.key, e.val]) w := by
  simp [-bind_pure_comp, Instr.entry, getIter_run hb, getObj_run hg, he]

end Go.AM

set_option linter.unusedVariables false
set_option linter.unusedSimpArgs false
namespace Go.AM
open Go

variable {F F' : Fz} {m m' : Mp} {fr : FR} {a : Act} {h : Heap} {w : World} {P : Program}

theorem op_in {Fc : Fence} {n : Nat} (hF : ∀ f, Fc.fn f) {ops : Array Oper} {Q : Exit → Act → World → Prop} {i : Nat} {rest : List Nat} {o : Oper} {v : Value} {w' : World} (hi : ops[i]? = some o) (hg : o.guard = none) (hp : ∀ c, o.op ≠ .defer c) (hr : (execOp a.eval o).run P w = .ok (.value v) w')
    (hk : wpOpsIn Fc n P ops Q rest (a.put o.dst v) w') : wpOpsIn Fc n P ops Q (i :: rest) a w := by
  simp only [wpOpsIn, hi]
  have hw : Region.wanted o (yielded ops a.tmps) = true := by simp [Region.wanted, hg]
  rw [hw]
  simp only [if_true]
  refine ⟨fun f _ => hF f, ?_⟩
  rw [Oper.semAt_eq _ _ _ hp, hr]
  exact hk

theorem op_round {n : Nat} {ops : Array Oper} {Q : Exit → Act → World → Prop} {i : Nat} {rest : List Nat} {o : Oper} {l : Nat} {f : FuncId} {tmps : Array Value} {assign body : Code} {w' : World} (hi : ops[i]? = some o) (hg : o.guard = none)
    (hr : (Oper.semAt Fence.wide.round a.eval o).run P w = .ok (.round l f tmps assign body) w')
    (hk : RoundIn Fence.wide (n - 1) P l f tmps assign body w' fun e w'' => ∃ v, e = .returned v ∧ wpOpsIn Fence.wide n P ops Q rest (a.put o.dst v) w'') : wpOpsIn Fence.wide n P ops Q (i :: rest) a w := by
  simp only [wpOpsIn, hi]
  have hw : Region.wanted o (yielded ops a.tmps) = true := by simp [Region.wanted, hg]
  rw [hw]
  simp only [if_true]
  refine ⟨fun f _ => trivial, ?_⟩
  rw [hr]
  rw [Oper.uponIn_round]
  refine ⟨fun h => by simp [Fence.wide] at h, hk.mono ?_⟩
  rintro e w1 ⟨v, rfl, h⟩
  exact h

theorem EntR_born : ∀ {es : List (AV × AV × Nat)} {l : List MapEntry}, EntR F m es l → l.map (·.born) = es.map (·.2.2)
  | [], l, h => by simp only [EntR] at h; simp [h]
  | (k, x, b) :: es, l, h => by
    simp only [EntR] at h
    obtain ⟨e, r, h1, h2, h3, h4, rfl⟩ := h
    simp [h3, EntR_born h4]

theorem EntR_at : ∀ {es : List (AV × AV × Nat)} {l : List MapEntry} {i : Nat} {e : MapEntry}, EntR F m es l → l[i]? = some e → ∃ q, es[i]? = some q ∧ VRel F m q.1 e.key ∧ q.2.2 = e.born
  | [], l, i, e, h, he => by simp only [EntR] at h; subst h; simp at he
  | (k, x, b) :: es, l, i, e, h, he => by
    simp only [EntR] at h
    obtain ⟨e0, r, h1, h2, h3, h4, rfl⟩ := h
    cases i with
    | zero =>
      simp only [List.getElem?_cons_zero, Option.some.injEq] at he
      subst he
      exact ⟨(k, x, b), rfl, h1, h3.symm⟩
    | succ i =>
      rw [List.getElem?_cons_succ] at he
      obtain ⟨q, q1, q2⟩ := EntR_at h4 he
      exact ⟨q, by simpa using q1, q2⟩

theorem find_born {l : List MapEntry} (hn : (l.map (·.born)).Nodup) {e : MapEntry} (he : e ∈ l) : l.find? (fun x => x.born == e.born) = some e := by
  induction l with
  | nil => simp at he
  | cons x l ih =>
    simp only [List.map_cons, List.nodup_cons] at hn
    rw [List.find?_cons]
    rcases List.mem_cons.1 he with rfl | he'
    · simp
    · have hne : (x.born == e.born) = false := by
        simp only [beq_eq_false_iff_ne, ne_eq]
        intro e0
        exact hn.1 (e0 ▸ List.mem_map.2 ⟨e, he', rfl⟩)
      rw [hne]
      exact ih hn.2 he'

/-- The operations of a map's iterator. -/
structure KeyOps (tm te tb : Nat) (p01 p02 p11 p12 p21 p22 p23 p24 p31 p32 p33 p34 : Oper) : Prop where
  a1 : p01.op = .load tm (.tmp 1) ∧ p01.guard = none ∧ p01.dst = some 4
  a2 : p02.op = .range tm (.tmp 4) ∧ p02.guard = none ∧ p02.dst = some 5
  b1 : p11.op = .next (.tmp 5) false ∧ p11.guard = none ∧ p11.dst = some 6
  b2 : p12.op = .extract (.tmp 6) 0 ∧ p12.guard = none ∧ p12.dst = some 7
  c1 : p21.op = .entry (.tmp 5) ∧ p21.guard = none ∧ p21.dst = some 8
  c2 : p22.op = .extract (.tmp 8) 0 ∧ p22.guard = none ∧ p22.dst = some 9
  c3 : p23.op = .alloc te ∧ p23.guard = none ∧ p23.dst = some 3
  c4 : p24.op = .store te (.tmp 3) (.tmp 9) ∧ p24.guard = none ∧ p24.dst = none
  d1 : p31.op = .move (.tmp 0) ∧ p31.guard = none ∧ p31.dst = some 10
  d2 : p32.op = .load te (.tmp 3) ∧ p32.guard = none ∧ p32.dst = some 11
  d3 : p33.op = .call { callee := .value (.tmp 10), args := #[.tmp 11], argTypes := #[te] } ∧ p33.guard = none ∧ p33.dst = some 12
  d4 : p34.op = .unOp .not tb (.tmp 12) ∧ p34.guard = none ∧ p34.dst = some 13

def bornsOf (dn : List (AV × AV × Nat)) : Array Nat := (dn.map (·.2.2)).toArray

/-- Between two rounds of the iterator. -/
structure KInv (c : SeqC) (es : List (AV × AV × Nat)) (cl g b : Nat) (dn : List (AV × AV × Nat)) (F : Fz) (m : Mp) (a : Act) (w : World) : Prop where
  at_ : At c (dn.map (·.1)) F m w
  iter : F b = some (.mapIter (some g) cl (bornsOf dn) cl)
  t0 : a.tmps[0]? = some (.func (.yield c.l) #[] #[])
  t5 : a.tmps[5]? = some (.pointer (some ⟨b, 0, none⟩))
  size : a.tmps.size = 14
  defers : a.defers = []
  sub : ∀ e ∈ dn, e ∈ es
  nodup : (dn.map (·.2.2)).Nodup
  base : c.F0 b = none

theorem eval_tmp {a : Act} {t : Tmp} {v : Value} (h : a.tmps[t]? = some v) : a.eval (.tmp t) = v := by simp [Act.eval, h]

theorem put_get {a : Act} {t : Tmp} {v : Value} (h : t < a.tmps.size) : (a.put (some t) v).tmps[t]? = some v := by simp [Act.put, h]

theorem put_size (a : Act) (d : Option Tmp) (v : Value) : (a.put d v).tmps.size = a.tmps.size := by cases d <;> simp [Act.put]

theorem stepO_alloc {E : Env} {K : CallK} {f : FuncId} {nt n0 : Nat} {ops : Array Oper} {o : Oper} {fr fr' : FR} {h : Heap} {ds ls : List Nat} {t : TypeId} {z : AV} {k : Nat} (ho : o.op = .alloc t) (hg : o.guard = none) (hz : E.zero t = some z) (hk : leafs z = k) (h1 : 1 ≤ k) (hp : putF nt fr o.dst (.ptr h.length 0 0 [] 0) = some fr') :
    stepO E K f nt n0 ops o ⟨fr, h, ds, ls⟩ = some (⟨fr', h ++ [.row k 0 [z] ⟨true, t⟩], ds, ls⟩, clsOf E f o fr) := by
  refine stepO_core (x := outOf (.ptr h.length 0 0 [] 0) (h ++ [.row k 0 [z] ⟨true, t⟩]) none (clsOf E f o fr)) hg ?_ hp
  unfold coreO
  simp [ho, opE, hz, hk, Nat.ble_eq_true_of_le h1, AM.newRow]

theorem stepO_store {E : Env} {K : CallK} {f : FuncId} {nt n0 : Nat} {ops : Array Oper} {o : Oper} {fr : FR} {h h' : Heap} {ds ls : List Nat} {t : TypeId} {a x : Operand} {p y : AV} {id : Nat} (ho : o.op = .store t a x) (hg : o.guard = none) (hd : o.dst = none) (ha : ev fr a = some p) (hx : ev fr x = some y) (hs : storeE E.P h t p y = some (h', id)) :
    ∃ ds' ls' c, stepO E K f nt n0 ops o ⟨fr, h, ds, ls⟩ = some (⟨fr, h', ds', ls'⟩, c) := by
  refine ⟨_, _, _, stepO_core (x := outOf (.tup []) h' (some (id, !idfree y)) (clsOf E f o fr)) hg ?_ (by rw [hd]; rfl)⟩
  unfold coreO
  simp only [ho, opE, ha, hx, hs]

/-- AN ENTRY: its key is read, the loop's body runs on it. -/
theorem key_round {E : Env} (hE : E.ZerosOK) {c : SeqC} (hR : RoundOK E.P c) {tm te tb k : Nat} {p01 p02 p11 p12 p21 p22 p23 p24 p31 p32 p33 p34 : Oper} (O : KeyOps tm te tb p01 p02 p11 p12 p21 p22 p23 p24 p31 p32 p33 p34) {z : AV} (hz : E.zero te = some z) (hzk : leafs z = k) (hk1 : 1 ≤ k) (sE : szOf E.P te = some k) (aE : aggT E.P te = some true) (hck : c.k = k) (hk2 : 2 ≤ k)
    {es dn : List (AV × AV × Nat)} {q : AV × AV × Nat} {cl g b : Nat} {ents : Array MapEntry} {e : MapEntry} {v0 : Value} {j2 j3 : Nat}
    (hat : At c (dn.map (·.1)) F m w) (hlen : dn.length < mostSeq) (hit : F b = some (.mapIter (some g) cl (bornsOf (dn ++ [q])) cl)) (hg : w.heap[g]? = some (.map ents cl)) (he : e ∈ ents) (hnd : (ents.toList.map (·.born)).Nodup) (hqe : q.2.2 = e.born) (hv0 : toV q.1 = some v0) (hkey : e.key = v0) (hqk : leafs q.1 = k)
    (hq : q ∈ es) (hsub : ∀ x ∈ dn, x ∈ es) (hnd2 : ((dn ++ [q]).map (·.2.2)).Nodup) (t0 : a.tmps[0]? = some (.func (.yield c.l) #[] #[])) (t5 : a.tmps[5]? = some (.pointer (some ⟨b, 0, none⟩))) (sz : a.tmps.size = 14) (df : a.defers = []) (hb0 : c.F0 b = none)
    {Q : Exit → Act → World → Prop} (hQ : ∀ F' m' a' w', Ext F m F' m' → KInv c es cl g b (dn ++ [q]) F' m' a' w' → Q .normal a' w') :
    (Code.seq (.region j2 #[p21, p22, p23, p24] false) (.seq (.region j3 #[p31, p32, p33, p34] false) (.cond (.tmp 13) .ret .skip))).wpIn Fence.wide 0 E.P Q a w := by
  have wide : ∀ f, Fence.wide.fn f := fun _ => trivial
  obtain ⟨h, sh, r⟩ := hat.mem
  have hiter := r.fz _ _ hit
  have hfind : ents.find? (fun x => x.born == q.2.2) = some e := by
    rw [hqe, ← Array.find?_toList]
    exact find_born hnd (by simpa using he)
  have hbo : bornsOf (dn ++ [q]) = (bornsOf dn).push q.2.2 := by simp [bornsOf]
  rw [hbo] at hiter
  have hrun := entry_run (P := E.P) hiter hg hfind
  have vself := (toV_self (F := F) (m := m) q.1 v0 hv0).1
  -- the entry's key in its variable
  refine wpIn_seq (wpIn_region ?_)
  show wpOpsIn _ _ _ _ _ [0, 1, 2, 3] a w
  refine op_in wide (o := p21) rfl O.c1.2.1 (by rw [O.c1.1]; intro c h; cases h) (v := .tuple #[e.key, e.val]) (w' := w) (by unfold execOp; rw [O.c1.1]; simp [-bind_pure_comp, eval_tmp t5, hrun]) ?_
  rw [O.c1.2.2]
  have g8 : (a.put (some 8) (.tuple #[e.key, e.val])).tmps[8]? = some (.tuple #[e.key, e.val]) := put_get (by rw [sz]; decide)
  refine op_in wide (o := p22) rfl O.c2.2.1 (by rw [O.c2.1]; intro c h; cases h) (v := e.key) (w' := w) (by unfold execOp; rw [O.c2.1]; simp [-bind_pure_comp, eval_tmp g8, Instr.extract]) ?_
  rw [O.c2.2.2]
  obtain ⟨a2, ha2⟩ : ∃ a2, (a.put (some 8) (.tuple #[e.key, e.val])).put (some 9) e.key = a2 := ⟨_, rfl⟩
  have sz2 : a2.tmps.size = 14 := by rw [← ha2, put_size, put_size, sz]
  have g9 : a2.tmps[9]? = some e.key := by rw [← ha2]; exact put_get (by rw [put_size, sz]; decide)
  have g0 : a2.tmps[0]? = some (.func (.yield c.l) #[] #[]) := by rw [← ha2, put_other _ _ _ _ (by simp), put_other _ _ _ _ (by simp)]; exact t0
  have g5 : a2.tmps[5]? = some (.pointer (some ⟨b, 0, none⟩)) := by rw [← ha2, put_other _ _ _ _ (by simp), put_other _ _ _ _ (by simp)]; exact t5
  have gd : a2.defers = [] := by rw [← ha2, put_defers, put_defers]; exact df
  rw [ha2]
  have s2 : SRl F m 14 ⟨[(9, q.1)], h, [], []⟩ a2 w := by
    refine ⟨r, ⟨fun t y hy => ?_⟩, sz2⟩
    simp only [AM.get] at hy
    cases hb : Nat.beq 9 t with
    | true =>
      have := Nat.eq_of_beq_eq_true hb
      subst this
      simp only [hb, cond_true, Option.some.injEq] at hy
      subst hy
      exact ⟨e.key, g9, hkey ▸ vself⟩
    | false => simp [hb] at hy
  have st1 := stepO_alloc (E := E) (K := noK) (f := 0) (nt := 14) (n0 := 0) (ops := #[p21, p22, p23, p24]) (fr := [(9, q.1)]) (h := h) (ds := []) (ls := []) O.c3.1 O.c3.2.1 hz hzk hk1 (fr' := [(3, .ptr h.length 0 0 [] 0), (9, q.1)]) (by rw [O.c3.2.2]; rfl)
  refine stepO_inT wide hE (o := p23) rfl st1 s2 fun a3 w3 F3 m3 he3 s3 hp3 hsm3 => ?_
  have hset : (h ++ [Row.row k 0 [z] ⟨true, te⟩]).set h.length (.row k 0 [q.1] ⟨true, te⟩) = h ++ [Row.row k 0 [q.1] ⟨true, te⟩] := by simp
  have hstore := store_one (P := E.P) (h := h ++ [Row.row k 0 [z] ⟨true, te⟩]) (id := h.length) (gen := 0) (ex := ⟨true, te⟩) (y := q.1) sE (by simp) hzk hqk (isTupA_of hv0)
  rw [hset] at hstore
  obtain ⟨ds4, ls4, c4, st2⟩ := stepO_store (E := E) (K := noK) (f := 0) (nt := 14) (n0 := 0) (ops := #[p21, p22, p23, p24]) (fr := [(3, .ptr h.length 0 0 [] 0), (9, q.1)]) (ds := []) (ls := []) O.c4.1 O.c4.2.1 O.c4.2.2 rfl rfl hstore
  refine stepO_inT wide hE (o := p24) rfl st2 s3 fun a4 w4 F4 m4 he4 s4 hp4 hsm4 => ?_
  obtain ⟨u3, rfl⟩ := hp3
  obtain ⟨u4, rfl⟩ := hp4
  obtain ⟨a4, ha4⟩ : ∃ a4, ((a2.put p23.dst u3).put p24.dst u4) = a4 := ⟨_, rfl⟩
  rw [ha4] at s4
  show Exit.then _ _ .normal ((a2.put p23.dst u3).put p24.dst u4) w4
  rw [ha4]
  have k0 : a4.tmps[0]? = some (.func (.yield c.l) #[] #[]) := by rw [← ha4, O.c4.2.2, O.c3.2.2, put_other _ _ _ _ (by simp), put_other _ _ _ _ (by simp)]; exact g0
  have k5 : a4.tmps[5]? = some (.pointer (some ⟨b, 0, none⟩)) := by rw [← ha4, O.c4.2.2, O.c3.2.2, put_other _ _ _ _ (by simp), put_other _ _ _ _ (by simp)]; exact g5
  have kd : a4.defers = [] := by rw [← ha4, put_defers, put_defers]; exact gd
  have e34 := he3.trans he4
  -- yield is called
  refine wpIn_seq (wpIn_region ?_)
  show wpOpsIn _ _ _ _ _ [0, 1, 2, 3] a4 w4
  refine op_in wide (o := p31) rfl O.d1.2.1 (by rw [O.d1.1]; intro c h; cases h) (v := .func (.yield c.l) #[] #[]) (w' := w4) (by unfold execOp; rw [O.d1.1]; simp [-bind_pure_comp, eval_tmp k0]) ?_
  have s5 : SRl F4 m4 14 ⟨[(10, .fn (.yield c.l) [] []), (3, .ptr h.length 0 0 [] 0), (9, q.1)], h ++ [Row.row k 0 [q.1] ⟨true, te⟩], [], []⟩ (a4.put p31.dst (.func (.yield c.l) #[] #[])) w4 :=
    (s4.plain (ds' := []) (ls' := [])).next (ds := []) (ls := []) (Ext.refl _ _) (dst := p31.dst) (y := .fn (.yield c.l) [] []) (by rw [O.d1.2.2]; rfl) (by simp [VRel, VL]) s4.rel
  have st5 := stepO_load (E := E) (K := noK) (f := 0) (nt := 14) (n0 := 0) (ops := #[p31, p32, p33, p34]) (fr := [(10, .fn (.yield c.l) [] []), (3, .ptr h.length 0 0 [] 0), (9, q.1)]) (fr' := [(11, q.1), (10, .fn (.yield c.l) [] []), (3, .ptr h.length 0 0 [] 0), (9, q.1)]) (h := h ++ [Row.row k 0 [q.1] ⟨true, te⟩]) (ds := []) (ls := []) O.d2.1 O.d2.2.1 rfl
    (load_one sE aE (show (h ++ [Row.row k 0 [q.1] ⟨true, te⟩])[h.length]? = some (.row k 0 [q.1] ⟨true, te⟩) by simp) hqk (agg_of hv0 hqk (by omega)).symm) (by rw [O.d2.2.2]; rfl)
  refine stepO_inT wide hE (o := p32) rfl st5 s5 fun a6 w6 F6 m6 he6 s6 hp6 hsm6 => ?_
  obtain ⟨u6, rfl⟩ := hp6
  obtain ⟨a6, ha6⟩ : ∃ a6, ((a4.put p31.dst (.func (.yield c.l) #[] #[])).put p32.dst u6) = a6 := ⟨_, rfl⟩
  rw [ha6] at s6
  rw [ha6]
  have l0 : a6.tmps[0]? = some (.func (.yield c.l) #[] #[]) := by rw [← ha6, O.d2.2.2, O.d1.2.2, put_other _ _ _ _ (by simp), put_other _ _ _ _ (by simp)]; exact k0
  have l5 : a6.tmps[5]? = some (.pointer (some ⟨b, 0, none⟩)) := by rw [← ha6, O.d2.2.2, O.d1.2.2, put_other _ _ _ _ (by simp), put_other _ _ _ _ (by simp)]; exact k5
  have ld : a6.defers = [] := by rw [← ha6, put_defers, put_defers]; exact kd
  obtain ⟨y10, y10a, y10b⟩ := s6.fr.get 10 (.fn (.yield c.l) [] []) rfl
  simp only [VRel, VL] at y10b
  obtain ⟨_, _, rfl, rfl, rfl⟩ := y10b
  obtain ⟨y11, y11a, y11b⟩ := s6.fr.get 11 q.1 rfl
  have hy11 : y11 = v0 := toV_rel q.1 v0 hv0 y11 y11b
  subst hy11
  have e36 := e34.trans he6
  have hat6 : At c (dn.map (·.1)) F6 m6 w6 := ⟨⟨_, sh.push _, s6.rel⟩, hat.ext.trans e36, e36.fz _ _ hat.loop, e36.fz _ _ hat.defer, hat.same.trans ((hsm3.trans hsm4).trans hsm6)⟩
  have hl6 := s6.rel.fz _ _ hat6.loop
  have hyr := run_yield (P := E.P) (args := #[y11]) hl6 (by simp [SeqC.rec_])
  have hround := hR 0 (dn.map (·.1)) q.1 y11 F6 m6 w6 hat6 (by simpa using hlen) hv0 (by rw [hqk, hck])
  have hex : (Oper.semAt Fence.wide.round a6.eval p33).run E.P w6 = .ok (.round c.l c.fn (c.tmps.setIfInBounds 7 y11) c.assign c.body) w6 := by
    rw [Oper.semAt_eq _ _ _ (by rw [O.d3.1]; intro c h; cases h)]
    unfold execOp
    rw [O.d3.1]
    have hargs : (#[Operand.tmp 11] : Array Operand).map a6.eval = #[y11] := by simp [eval_tmp y11a]
    simp only [resolve, eval_tmp y10a, Deferred.ofValue, hargs, Sem.run_bind, Sem.run_pure, Result.andThen_ok, invoke]
    rw [show (#[] ++ #[y11] : Array Value) = #[y11] by simp, hyr]
    simp [SeqC.rec_]
  refine op_round (o := p33) rfl O.d3.2.1 hex ((hround.mono ?_))
  rintro e w7 ⟨rfl, F7, m7, he7, hat7⟩
  refine ⟨_, rfl, ?_⟩
  rw [O.d3.2.2]
  obtain ⟨a7, ha7⟩ : ∃ a7, a6.put (some 12) (.bool true) = a7 := ⟨_, rfl⟩
  have sz6 : a6.tmps.size = 14 := s6.size
  have n12 : a7.tmps[12]? = some (.bool true) := by rw [← ha7]; exact put_get (by rw [sz6]; decide)
  have n0 : a7.tmps[0]? = some (.func (.yield c.l) #[] #[]) := by rw [← ha7, put_other _ _ _ _ (by simp)]; exact l0
  have n5 : a7.tmps[5]? = some (.pointer (some ⟨b, 0, none⟩)) := by rw [← ha7, put_other _ _ _ _ (by simp)]; exact l5
  have nd : a7.defers = [] := by rw [← ha7, put_defers]; exact ld
  have sz7 : a7.tmps.size = 14 := by rw [← ha7, put_size, sz6]
  rw [ha7]
  refine op_in wide (o := p34) rfl O.d4.2.1 (by rw [O.d4.1]; intro c h; cases h) (v := .bool false) (w' := w7) (by unfold execOp; rw [O.d4.1]; simp [-bind_pure_comp, eval_tmp n12, Op.unary]) ?_
  rw [O.d4.2.2]
  simp only [wpOpsIn, Exit.then]
  have q13 : (a7.put (some 13) (.bool false)).tmps[13]? = some (.bool false) := put_get (by rw [sz7]; decide)
  refine wpIn_cond_false (eval_tmp q13) (wpIn_skip ?_)
  have e37 := e36.trans he7
  refine hQ F7 m7 _ w7 e37 ⟨by simpa using hat7, e37.fz _ _ hit, ?_, ?_, by rw [put_size, sz7], by rw [put_defers]; exact nd, ?_, hnd2, hb0⟩
  · rw [put_other _ _ _ _ (by simp)]; exact n0
  · rw [put_other _ _ _ _ (by simp)]; exact n5
  · intro x hx
    rcases List.mem_append.1 hx with hx | hx
    · exact hsub x hx
    · rw [List.mem_singleton.1 hx]; exact hq

theorem len_le {α β : Type} {f : α → β} : ∀ {dn es : List α}, (dn.map f).Nodup → (∀ x ∈ dn, x ∈ es) → dn.length ≤ es.length
  | [], _, _, _ => Nat.zero_le _
  | x :: dn, es, hn, hs => by
    obtain ⟨s, t, rfl⟩ := List.append_of_mem (hs x (List.mem_cons_self ..))
    simp only [List.map_cons, List.nodup_cons] at hn
    have := len_le (dn := dn) (es := s ++ t) hn.2 (fun y hy => by
      have h1 := hs y (List.mem_cons_of_mem _ hy)
      have hne : y ≠ x := fun e => hn.1 (e ▸ List.mem_map_of_mem hy)
      simp only [List.mem_append, List.mem_cons] at h1 ⊢
      rcases h1 with h1 | h1 | h1
      · exact .inl h1
      · exact (hne h1).elim
      · exact .inr h1)
    simp only [List.length_append, List.length_cons] at this ⊢
    omega

theorem all_perm {α β : Type} {f : α → β} : ∀ {dn es : List α}, (dn.map f).Nodup → (es.map f).Nodup → (∀ x ∈ dn, x ∈ es) → (∀ e ∈ es, f e ∈ dn.map f) → dn.Perm es
  | [], es, _, _, _, h => by
    cases es with
    | nil => exact .nil
    | cons e es => exact absurd (h e (List.mem_cons_self ..)) (by simp)
  | x :: dn, es, hn, he, hs, h => by
    obtain ⟨s, t, rfl⟩ := List.append_of_mem (hs x (List.mem_cons_self ..))
    simp only [List.map_cons, List.nodup_cons] at hn
    have he' : (f x :: (s ++ t).map f).Nodup := by
      have : ((s ++ x :: t).map f).Perm (f x :: (s ++ t).map f) := by
        have := (List.perm_middle (a := x) (l₁ := s) (l₂ := t)).map f
        simpa only [List.map_cons] using this
      exact this.nodup_iff.1 he
    rw [List.nodup_cons] at he'
    have := all_perm (dn := dn) (es := s ++ t) hn.2 he'.2 (fun y hy => by
      have h1 := hs y (List.mem_cons_of_mem _ hy)
      have hne : y ≠ x := fun e => hn.1 (e ▸ List.mem_map_of_mem hy)
      simp only [List.mem_append, List.mem_cons] at h1 ⊢
      rcases h1 with h1 | h1 | h1
      · exact .inl h1
      · exact (hne h1).elim
      · exact .inr h1) (fun e hee => by
      have h1 := h e (by
        simp only [List.mem_append, List.mem_cons] at hee ⊢
        rcases hee with h1 | h1
        · exact .inl h1
        · exact .inr (.inr h1))
      simp only [List.map_cons, List.mem_cons] at h1
      rcases h1 with h1 | h1
      · exact (he'.1 (h1 ▸ List.mem_map_of_mem hee)).elim
      · exact h1)
    exact (this.cons x).trans List.perm_middle.symm

/-- THE ROUNDS of the walk through a map. -/
theorem keys_rounds {E : Env} (hE : E.ZerosOK) {c : SeqC} (hR : RoundOK E.P c) {tm te tb k : Nat} {p01 p02 p11 p12 p21 p22 p23 p24 p31 p32 p33 p34 : Oper} (O : KeyOps tm te tb p01 p02 p11 p12 p21 p22 p23 p24 p31 p32 p33 p34) {z : AV} (hz : E.zero te = some z) (hzk : leafs z = k) (sE : szOf E.P te = some k) (aE : aggT E.P te = some true) (hck : c.k = k) (hk2 : 2 ≤ k)
    {es : List (AV × AV × Nat)} {cl mid g b : Nat} (hmap : c.h0[mid]? = some (.map es cl)) (hnd : (es.map (·.2.2)).Nodup) (hlt : ∀ e ∈ es, e.2.2 < cl) (hkey : ∀ e ∈ es, ∃ v, toV e.1 = some v ∧ leafs e.1 = k) (hmost : es.length < mostSeq) {j1 j2 j3 : Nat}
    {Q : Exit → Act → World → Prop} (hover : ∀ dn F m a w, KInv c es cl g b dn F m a w → (∀ e ∈ es, e.2.2 ∈ dn.map (·.2.2)) → Q (.exit 0) a w) :
    ∀ (n : Nat) (dn : List (AV × AV × Nat)) (F : Fz) (m : Mp) (a : Act) (w : World), KInv c es cl g b dn F m a w → m.map mid = some g → es.length < dn.length + n →
      Code.roundsIn Fence.wide 0 E.P (.seq (.region j1 #[p11, p12] false) (.seq (.cond (.tmp 7) .skip (.exit 0)) (.block 1 (.seq (.region j2 #[p21, p22, p23, p24] false) (.seq (.region j3 #[p31, p32, p33, p34] false) (.cond (.tmp 13) .ret .skip)))))) Q n a w := by
  have wide : ∀ f, Fence.wide.fn f := fun _ => trivial
  intro n
  induction n with
  | zero =>
    intro dn F m a w K _ hl
    have := len_le K.nodup K.sub
    omega
  | succ n ih =>
    intro dn F m a w K hmg hl
    rw [roundsIn_succ]
    obtain ⟨h, sh, r⟩ := K.at_.mem
    have hlen := len_le K.nodup K.sub
    have hmid : mid < c.h0.length := (List.getElem?_eq_some_iff.1 hmap).1
    obtain ⟨g1, ents, x⟩ := r.map _ _ _ (by rw [sh.old mid hmid]; exact hmap)
    have hgg : g1 = g := by have := x.mp; rw [hmg] at this; injection this with this; exact this.symm
    subst hgg
    have hborn := EntR_born x.ents
    have hltE : ∀ e ∈ ents, e.born < cl := fun e he => by
      have : e.born ∈ es.map (·.2.2) := by rw [← hborn]; exact List.mem_map_of_mem (by simpa using he)
      obtain ⟨q, q1, q2⟩ := List.mem_map.1 this
      rw [← q2]
      exact hlt q q1
    have hit := r.fz _ _ K.iter
    refine wpIn_seq (wpIn_region ?_)
    show wpOpsIn _ _ _ _ _ [0, 1] a w
    rcases next_run (P := E.P) hit x.heap hltE p11.type with ⟨hem, hrun⟩ | ⟨e, w1, he, hns, hrun, hh, ho, ht, hou, hdr⟩
    · -- over
      refine op_in wide (o := p11) rfl O.b1.2.1 (by rw [O.b1.1]; intro c h; cases h) (v := .tuple #[.bool false]) (w' := w) (by unfold execOp; rw [O.b1.1]; simp [-bind_pure_comp, eval_tmp K.t5, hrun]) ?_
      rw [O.b1.2.2]
      have g6 : (a.put (some 6) (.tuple #[.bool false])).tmps[6]? = some (.tuple #[.bool false]) := put_get (by rw [K.size]; decide)
      refine op_in wide (o := p12) rfl O.b2.2.1 (by rw [O.b2.1]; intro c h; cases h) (v := .bool false) (w' := w) (by unfold execOp; rw [O.b2.1]; simp [-bind_pure_comp, eval_tmp g6, Instr.extract]) ?_
      rw [O.b2.2.2]
      simp only [wpOpsIn, Exit.then]
      have g7 : ((a.put (some 6) (.tuple #[.bool false])).put (some 7) (.bool false)).tmps[7]? = some (.bool false) := put_get (by rw [put_size, K.size]; decide)
      refine wpIn_seq (wpIn_cond_false (eval_tmp g7) (wpIn_exit ?_))
      simp only [Exit.then]
      refine hover dn F m _ w ⟨K.at_, K.iter, ?_, ?_, by rw [put_size, put_size, K.size], by rw [put_defers, put_defers]; exact K.defers, K.sub, K.nodup, K.base⟩ (fun q hq => ?_)
      · rw [put_other _ _ _ _ (by simp), put_other _ _ _ _ (by simp)]; exact K.t0
      · rw [put_other _ _ _ _ (by simp), put_other _ _ _ _ (by simp)]; exact K.t5
      · have : q.2.2 ∈ ents.toList.map (·.born) := by rw [hborn]; exact List.mem_map_of_mem hq
        obtain ⟨e, e1, e2⟩ := List.mem_map.1 this
        have hne : ¬ (e ∈ ents.filter fun e => !(bornsOf dn).contains e.born) := by rw [hem]; simp
        rw [Array.mem_filter] at hne
        have hc : (bornsOf dn).contains e.born = true := by
          cases hcc : (bornsOf dn).contains e.born with
          | true => rfl
          | false => exact (hne ⟨by simpa using e1, by rw [hcc]; rfl⟩).elim
        rw [← e2]
        simpa [bornsOf] using hc
    · -- an entry
      obtain ⟨i, hi⟩ := List.getElem?_of_mem (show e ∈ ents.toList by simpa using he)
      obtain ⟨q, q1, q2, q3⟩ := EntR_at x.ents hi
      have hq : q ∈ es := List.mem_of_getElem? q1
      obtain ⟨v0, hv0, hqk⟩ := hkey q hq
      have hkv : e.key = v0 := toV_rel q.1 v0 hv0 _ q2
      have hnd2 : ((dn ++ [q]).map (·.2.2)).Nodup := by
        rw [List.map_append, List.nodup_append]
        refine ⟨K.nodup, by simp, fun x1 h1 x2 h2 => ?_⟩
        simp only [List.map_cons, List.map_nil, List.mem_singleton] at h2
        subst h2
        rintro rfl
        have : (bornsOf dn).contains e.born = true := by
          rw [← q3]
          simp only [bornsOf, List.contains_toArray, List.contains_iff_mem]
          exact h1
        rw [hns] at this
        cases this
      have hlen2 := len_le hnd2 (es := es) (fun y hy => by
        rcases List.mem_append.1 hy with hy | hy
        · exact K.sub y hy
        · rw [List.mem_singleton.1 hy]; exact hq)
      simp only [List.length_append, List.length_singleton] at hlen2
      have hlb : b < w.heap.size := (Array.getElem?_eq_some_iff.1 hit).1
      have hw1 : ∀ d, d ≠ b → w1.heap[d]? = w.heap[d]? := fun d hd => by rw [hh]; exact Array.getElem?_setIfInBounds_ne (Ne.symm hd)
      have hw2 : w1.heap[b]? = some (.mapIter (some g1) cl ((bornsOf dn).push e.born) cl) := by rw [hh]; simp [hlb]
      have r1 := r.swap K.iter (fun _ _ _ h => by cases h) hw1 hw2
      have hbo : (bornsOf dn).push e.born = bornsOf (dn ++ [q]) := by simp [bornsOf, q3]
      rw [hbo] at r1
      have hne : ∀ d o, F d = some o → (∀ c0 s0 e0 f0, o ≠ .mapIter c0 s0 e0 f0) → Fz.add F b (.mapIter (some g1) cl (bornsOf (dn ++ [q])) cl) d = some o := fun d o hd ho => by
        have : d ≠ b := fun hh => by subst hh; rw [K.iter] at hd; injection hd with hd; exact ho _ _ _ _ hd.symm
        unfold Fz.add
        rw [if_neg this]
        exact hd
      have ex1 : Ext c.F0 c.m0 (Fz.add F b (.mapIter (some g1) cl (bornsOf (dn ++ [q])) cl)) m := by
        refine ⟨fun d o hd => ?_, K.at_.ext.row, K.at_.ext.map⟩
        have : d ≠ b := fun hh => by subst hh; rw [K.base] at hd; cases hd
        unfold Fz.add
        rw [if_neg this]
        exact K.at_.ext.fz d o hd
      have sm : Same w w1 := ⟨ho, ht, hou, by rw [hh]; simp, hdr⟩
      have at1 : At c (dn.map (·.1)) (Fz.add F b (.mapIter (some g1) cl (bornsOf (dn ++ [q])) cl)) m w1 := ⟨⟨h, sh, r1⟩, ex1, hne _ _ K.at_.loop (fun _ _ _ _ h => by cases h), hne _ _ K.at_.defer (fun _ _ _ _ h => by cases h), K.at_.same.trans sm⟩
      refine op_in wide (o := p11) rfl O.b1.2.1 (by rw [O.b1.1]; intro c h; cases h) (v := .tuple #[.bool true, e.key, e.val]) (w' := w1) (by unfold execOp; rw [O.b1.1]; simp [-bind_pure_comp, eval_tmp K.t5, hrun]) ?_
      rw [O.b1.2.2]
      have g6 : (a.put (some 6) (.tuple #[.bool true, e.key, e.val])).tmps[6]? = some (.tuple #[.bool true, e.key, e.val]) := put_get (by rw [K.size]; decide)
      refine op_in wide (o := p12) rfl O.b2.2.1 (by rw [O.b2.1]; intro c h; cases h) (v := .bool true) (w' := w1) (by unfold execOp; rw [O.b2.1]; simp [-bind_pure_comp, eval_tmp g6, Instr.extract]) ?_
      rw [O.b2.2.2]
      simp only [wpOpsIn, Exit.then]
      have g7 : ((a.put (some 6) (.tuple #[.bool true, e.key, e.val])).put (some 7) (.bool true)).tmps[7]? = some (.bool true) := put_get (by rw [put_size, K.size]; decide)
      refine wpIn_seq (wpIn_cond_true (eval_tmp g7) (wpIn_skip ?_))
      simp only [Exit.then]
      refine wpIn_block ?_
      refine key_round hE hR O hz hzk (by omega) sE aE hck hk2 (g := g1) (cl := cl) (b := b) (F := Fz.add F b (.mapIter (some g1) cl (bornsOf (dn ++ [q])) cl)) (m := m) (es := es) (dn := dn) (q := q) (ents := ents) (e := e) (v0 := v0) at1 (by omega) ?_ ?_ he (by rw [hborn]; exact hnd) q3 hv0 hkv hqk hq K.sub hnd2 ?_ ?_ (by rw [put_size, put_size, K.size]) (by rw [put_defers, put_defers]; exact K.defers) K.base ?_
      · simp [Fz.add]
      · have hgb : g1 ≠ b := fun hh => by subst hh; rw [x.heap] at hit; cases hit
        rw [hw1 _ hgb]
        exact x.heap
      · rw [put_other _ _ _ _ (by simp), put_other _ _ _ _ (by simp)]; exact K.t0
      · rw [put_other _ _ _ _ (by simp), put_other _ _ _ _ (by simp)]; exact K.t5
      · intro F' m' a' w' he' K'
        simp only [Exit.inBlock, Exit.then]
        exact ih (dn ++ [q]) F' m' a' w' K' (he'.map _ _ hmg) (by simp only [List.length_append, List.length_singleton]; omega)

/-- A MAP's ITERATOR: it gives every key once. -/
theorem iter_keys {E : Env} (hE : E.ZerosOK) {fid : FuncId} {fn : Func} {tm te tb k : Nat} {p01 p02 p11 p12 p21 p22 p23 p24 p31 p32 p33 p34 : Oper} (O : KeyOps tm te tb p01 p02 p11 p12 p21 p22 p23 p24 p31 p32 p33 p34) {z : AV} (hz : E.zero te = some z) (hzk : leafs z = k) (sE : szOf E.P te = some k) (aE : aggT E.P te = some true) (sM : szOf E.P tm = some 1) (aM : aggT E.P tm = some false) {kt et : TypeId} (uM : E.P.underlying tm = some (.map kt et)) (hk2 : 2 ≤ k)
    {j0 j1 j2 j3 : Nat} (hf : E.P.funcs[fid]? = some fn) (hn : fn.ntmps = 14) (hres : fn.results = #[])
    (hb : fn.body = some (.seq (.region j0 #[p01, p02] false) (.block 0 (.loop (.seq (.region j1 #[p11, p12] false) (.seq (.cond (.tmp 7) .skip (.exit 0)) (.block 1 (.seq (.region j2 #[p21, p22, p23, p24] false) (.seq (.region j3 #[p31, p32, p33, p34] false) (.cond (.tmp 13) .ret .skip))))))))))
    {h0 : Heap} {id gen i o : Nat} {p : List Nat} {es : List (AV × AV × Nat)} {cl mid : Nat} (hlook : lookAt h0 (.ptr id gen i p o) = some (.map mid)) (hmap : h0[mid]? = some (.map es cl)) (hnd : (es.map (·.2.2)).Nodup) (hlt : ∀ e ∈ es, e.2.2 < cl) (hkey : ∀ e ∈ es, ∃ v, toV e.1 = some v ∧ leafs e.1 = k) (hmost : es.length < mostSeq) :
    IterOK E.P fid [.ptr id gen i p o] h0 k (fun xs => ∃ dn : List (AV × AV × Nat), dn.Perm es ∧ xs = dn.map (·.1)) := by
  have wide : ∀ f, Fence.wide.fn f := fun _ => trivial
  intro c hR hh hck hDl F m W vs hat hv hl0
  subst hh
  obtain ⟨h, sh, r⟩ := hat.mem
  simp only [VL] at hv
  obtain ⟨pv, _, hp, rfl, rfl⟩ := hv
  refine callsIn_of_wp hf hb trivial ?_
  rw [hn]
  have hlook' : lookAt h (.ptr id gen i p o) = some (.map mid) := by rw [lookAt_old sh.old (lookAt_lt hlook)]; exact hlook
  have hld : loadE E.P h tm (.ptr id gen i p o) = some (.map mid) := by simp [loadE, hlook', partE, sM, aM, leafs, isAggA]
  have s0 : SRl F m 14 ⟨[(0, .fn (.yield c.l) [] []), (1, .ptr id gen i p o)], h, [], []⟩ { tmps := (#[Value.func (.yield c.l) #[] #[]] ++ [pv].toArray) ++ Array.replicate (14 - (#[Value.func (.yield c.l) #[] #[]] ++ [pv].toArray).size) undef, defers := [] } W := by
    refine ⟨r, ⟨fun t y hy => ?_⟩, by simp⟩
    simp only [AM.get] at hy
    cases h0 : Nat.beq 0 t with
    | true =>
      have := Nat.eq_of_beq_eq_true h0
      subst this
      simp only [h0, cond_true, Option.some.injEq] at hy
      subst hy
      exact ⟨.func (.yield c.l) #[] #[], by simp, by simp [VRel, VL]⟩
    | false =>
      simp only [h0, cond_false] at hy
      cases h1 : Nat.beq 1 t with
      | true =>
        have := Nat.eq_of_beq_eq_true h1
        subst this
        simp only [h1, cond_true, Option.some.injEq] at hy
        subst hy
        exact ⟨pv, by simp, hp⟩
      | false => simp [h1] at hy
  refine wpIn_seq (wpIn_region ?_)
  show wpOpsIn _ _ _ _ _ [0, 1] _ W
  have st1 := stepO_load (E := E) (K := noK) (f := 0) (nt := 14) (n0 := 0) (ops := #[p01, p02]) (fr := [(0, .fn (.yield c.l) [] []), (1, .ptr id gen i p o)]) (fr' := [(4, .map mid), (0, .fn (.yield c.l) [] []), (1, .ptr id gen i p o)]) (h := h) (ds := []) (ls := []) O.a1.1 O.a1.2.1 rfl hld (by rw [O.a1.2.2]; rfl)
  refine stepO_inT wide hE (o := p01) rfl st1 s0 fun a1 w1 F1 m1 he1 s1 hp1 hsm1 => ?_
  obtain ⟨u1, rfl⟩ := hp1
  obtain ⟨a1, ha1⟩ : ∃ a1, (Act.put { tmps := (#[Value.func (.yield c.l) #[] #[]] ++ [pv].toArray) ++ Array.replicate (14 - (#[Value.func (.yield c.l) #[] #[]] ++ [pv].toArray).size) undef, defers := [] } p01.dst u1) = a1 := ⟨_, rfl⟩
  rw [ha1] at s1
  rw [ha1]
  have hd1 : a1.defers = [] := by rw [← ha1, put_defers]
  obtain ⟨y4, y4a, y4b⟩ := s1.fr.get 4 (.map mid) rfl
  simp only [VRel] at y4b
  obtain ⟨g, hmg, rfl⟩ := y4b
  obtain ⟨y0, y0a, y0b⟩ := s1.fr.get 0 (.fn (.yield c.l) [] []) rfl
  simp only [VRel, VL] at y0b
  obtain ⟨_, _, rfl, rfl, rfl⟩ := y0b
  have hmid : mid < c.h0.length := (List.getElem?_eq_some_iff.1 hmap).1
  obtain ⟨g1, ents, x⟩ := s1.rel.map _ _ _ (by rw [sh.old mid hmid]; exact hmap)
  have hgg : g1 = g := by have := x.mp; rw [hmg] at this; injection this with this; exact this.symm
  subst hgg
  have hrr := range_run (P := E.P) uM x.heap
  refine op_in wide (o := p02) rfl O.a2.2.1 (by rw [O.a2.1]; intro c h; cases h) (v := .pointer (some ⟨w1.heap.size, 0, none⟩)) (w' := w1.alloc (.mapIter (some g1) cl #[] cl)) (by unfold execOp; rw [O.a2.1]; simp [-bind_pure_comp, eval_tmp y4a, hrr]) ?_
  rw [O.a2.2.2]
  simp only [wpOpsIn, Exit.then]
  obtain ⟨r2, e2⟩ := s1.rel.frozenBlock (.mapIter (some g1) cl #[] cl)
  obtain ⟨b, hbd⟩ : ∃ b, w1.heap.size = b := ⟨_, rfl⟩
  rw [hbd] at r2 e2
  have hn1 : F1 b = none := s1.rel.none_at (Nat.le_of_eq hbd)
  have hext1 := hat.ext.trans he1
  have K0 : KInv c es cl g1 b [] (Fz.add F1 b (.mapIter (some g1) cl #[] cl)) m1 (a1.put (some 5) (.pointer (some ⟨b, 0, none⟩))) (w1.alloc (.mapIter (some g1) cl #[] cl)) := by
    refine ⟨⟨⟨h, sh, r2⟩, hext1.trans e2, (he1.trans e2).fz _ _ hat.loop, (he1.trans e2).fz _ _ hat.defer, (hat.same.trans hsm1).trans (same_alloc _ _)⟩, by simp [Fz.add, bornsOf], ?_, ?_, by rw [put_size]; exact s1.size, by rw [put_defers]; exact hd1, (fun _ h => nomatch h), (by simp), ?_⟩
    · rw [put_other _ _ _ _ (by simp)]; exact y0a
    · exact put_get (by rw [s1.size]; decide)
    · cases hcb : c.F0 b with
      | none => rfl
      | some o => rw [hext1.fz _ _ hcb] at hn1; cases hn1
  refine wpIn_block (wpIn_loop_rounds (es.length + 1) ?_)
  rw [hbd]
  refine keys_rounds hE hR O hz hzk sE aE hck hk2 hmap hnd hlt hkey hmost (g := g1) (b := b) (cl := cl) ?_ (es.length + 1) [] _ _ _ _ K0 hmg (by simp)
  intro dn F' m' a' w' K' hall
  simp only [Exit.inBlock, if_true, Exit.then, bodyPost]
  refine ⟨K'.defers, .tuple #[], by simp [results, hres], _, rfl, dn.map (·.1), F', m', ⟨dn, all_perm K'.nodup hnd K'.sub hall, rfl⟩, K'.at_⟩

end Go.AM

set_option linter.unusedVariables false
set_option linter.unusedSimpArgs false
namespace Go.AM
open Go

variable {F F' : Fz} {m m' : Mp} {fr : FR} {a : Act} {h : Heap} {w : World} {P : Program}

end Go.AM

set_option linter.unusedVariables false
set_option linter.unusedSimpArgs false
namespace Go.AM
open Go

variable {F F' : Fz} {m m' : Mp} {fr : FR} {a : Act} {h : Heap} {w : World} {P : Program}

theorem stepO_op {E : Env} {K : CallK} {f : FuncId} {nt n0 : Nat} {ops : Array Oper} {o : Oper} {fr fr' : FR} {h : Heap} {ds ls : List Nat} {y : AV} (hg : o.guard = none) (hc : coreO E K f o fr h = some (outOf y h none (clsOf E f o fr))) (hp : putF nt fr o.dst y = some fr') :
    stepO E K f nt n0 ops o ⟨fr, h, ds, ls⟩ = some (⟨fr', h, ds, ls⟩, clsOf E f o fr) := stepO_core (x := outOf y h none (clsOf E f o fr)) hg hc hp
theorem core_of_bin {E : Env} {K : CallK} {f : FuncId} {o : Oper} {op : BinOp} {t rt : TypeId} {x y : Operand} {u v r : AV} (ho : o.op = .binOp op t x y rt) (hx : ev fr x = some u) (hy : ev fr y = some v) (hb : binE E.P op t x y u v = some r) : coreO E K f o fr h = some (outOf r h none (clsOf E f o fr)) := by
  unfold coreO
  simp only [ho, opE, hx, hy, hb]
theorem core_of_move {E : Env} {K : CallK} {f : FuncId} {o : Oper} {x : Operand} {u : AV} (ho : o.op = .move x) (hx : ev fr x = some u) : coreO E K f o fr h = some (outOf u h none (clsOf E f o fr)) := by
  unfold coreO
  simp only [ho, opE, hx]
theorem core_of_iaddr {E : Env} {K : CallK} {f : FuncId} {o : Oper} {t : TypeId} {x i : Operand} {u v r : AV} (ho : o.op = .indexAddr t x i) (hx : ev fr x = some u) (hi : ev fr i = some v) (hb : indexAddrE E.P h t u v = some r) : coreO E K f o fr h = some (outOf r h none (clsOf E f o fr)) := by
  unfold coreO
  simp only [ho, opE, hx, hi, hb]
theorem core_of_not {E : Env} {K : CallK} {f : FuncId} {o : Oper} {t : TypeId} {x : Operand} {b : Bool} (ho : o.op = .unOp .not t x) (hx : ev fr x = some (.v (.bool b))) : coreO E K f o fr h = some (outOf (.v (.bool !b)) h none (clsOf E f o fr)) := by
  unfold coreO
  simp only [ho, opE, hx]
  rfl

theorem bin_addE {t : TypeId} {ox oy : Operand} {x y : Int} : binE P .add t ox oy (.v (.int .i64 x)) (.v (.int .i64 y)) = some (.v (.int .i64 (IntKind.i64.wrap (x + y)))) := rfl
theorem bin_lssE {t : TypeId} {ox oy : Operand} {x y : Int} : binE P .lss t ox oy (.v (.int .i64 x)) (.v (.int .i64 y)) = some (.v (.bool (decide (x < y)))) := rfl

/-- The operations of a slice's iterator. -/
structure ValOps (ts te tb ti : Nat) (p01 p02 p03 p1 p21 p22 p23 p24 p31 p32 p33 p34 p41 p42 : Oper) : Prop where
  a1 : p01.op = .load ts (.tmp 1) ∧ p01.guard = none ∧ p01.dst = some 5
  a2 : p02.op = .call { callee := .builtin .len, args := #[.tmp 5], argTypes := #[ts] } ∧ p02.guard = none ∧ p02.dst = some 6
  a3 : p03.op = .move (.const (.int .i64 0)) ∧ p03.guard = none ∧ p03.dst = some 7
  b1 : p1.op = .binOp .lss ti (.tmp 7) (.tmp 6) ti ∧ p1.guard = none ∧ p1.dst = some 8
  c1 : p21.op = .indexAddr ts (.tmp 5) (.tmp 7) ∧ p21.guard = none ∧ p21.dst = some 9
  c2 : p22.op = .load te (.tmp 9) ∧ p22.guard = none ∧ p22.dst = some 10
  c3 : p23.op = .alloc te ∧ p23.guard = none ∧ p23.dst = some 4
  c4 : p24.op = .store te (.tmp 4) (.tmp 10) ∧ p24.guard = none ∧ p24.dst = none
  d1 : p31.op = .move (.tmp 0) ∧ p31.guard = none ∧ p31.dst = some 11
  d2 : p32.op = .load te (.tmp 4) ∧ p32.guard = none ∧ p32.dst = some 12
  d3 : p33.op = .call { callee := .value (.tmp 11), args := #[.tmp 12], argTypes := #[te] } ∧ p33.guard = none ∧ p33.dst = some 13
  d4 : p34.op = .unOp .not tb (.tmp 13) ∧ p34.guard = none ∧ p34.dst = some 14
  e1 : p41.op = .binOp .add ti (.tmp 7) (.const (.int .i64 1)) ti ∧ p41.guard = none ∧ p41.dst = some 15
  e2 : p42.op = .move (.tmp 15) ∧ p42.guard = none ∧ p42.dst = some 7

/-- A slice whose elements are told in whatever heap the old rows stand. -/
structure Told (E : Env) (ts te k : Nat) (h0 : Heap) (s : AV) (xs : List AV) : Prop where
  len : sliceLen s = some xs.length
  at_ : ∀ h, (∀ id, id < h0.length → h[id]? = h0[id]?) → ∀ (j : Nat) x, xs[j]? = some x → ∃ p, indexAddrE E.P h ts s (vInt j) = some p ∧ loadE E.P h te p = some x
  el : ∀ x ∈ xs, ∃ v, toV x = some v ∧ leafs x = k

/-- Between two rounds of the iterator. -/
structure VInv (c : SeqC) (xs : List AV) (s : AV) (j : Nat) (F : Fz) (m : Mp) (a : Act) (w : World) : Prop where
  at_ : At c (xs.take j) F m w
  fr : FRel F m [(0, .fn (.yield c.l) [] []), (5, s), (6, vInt xs.length), (7, vInt j)] a.tmps
  size : a.tmps.size = 16
  defers : a.defers = []

theorem frel_sub {fr fr' : FR} {tmps : Array Value} (hf : FRel F m fr tmps) (h : ∀ t y, AM.get fr' t = some y → AM.get fr t = some y) : FRel F m fr' tmps := ⟨fun t y hy => hf.get t y (h t y hy)⟩

theorem get_four {s1 s2 s3 s4 : AV} {t : Nat} {y : AV} {i1 i2 i3 i4 : Nat} {fr : FR} (hy : AM.get [(i1, s1), (i2, s2), (i3, s3), (i4, s4)] t = some y) (h1 : AM.get fr i1 = some s1) (h2 : AM.get fr i2 = some s2) (h3 : AM.get fr i3 = some s3) (h4 : AM.get fr i4 = some s4) : AM.get fr t = some y := by
  simp only [AM.get] at hy
  cases e1 : Nat.beq i1 t with
  | true => have := Nat.eq_of_beq_eq_true e1; subst this; simp only [e1, cond_true] at hy; rw [h1, hy]
  | false =>
    simp only [e1, cond_false] at hy
    cases e2 : Nat.beq i2 t with
    | true => have := Nat.eq_of_beq_eq_true e2; subst this; simp only [e2, cond_true] at hy; rw [h2, hy]
    | false =>
      simp only [e2, cond_false] at hy
      cases e3 : Nat.beq i3 t with
      | true => have := Nat.eq_of_beq_eq_true e3; subst this; simp only [e3, cond_true] at hy; rw [h3, hy]
      | false =>
        simp only [e3, cond_false] at hy
        cases e4 : Nat.beq i4 t with
        | true => have := Nat.eq_of_beq_eq_true e4; subst this; simp only [e4, cond_true] at hy; rw [h4, hy]
        | false => simp [e4] at hy

/-- AN ELEMENT: it is read, the loop's body runs on it. -/
theorem val_round {E : Env} (hE : E.ZerosOK) {c : SeqC} (hR : RoundOK E.P c) {ts te tb ti k : Nat} {p01 p02 p03 p1 p21 p22 p23 p24 p31 p32 p33 p34 p41 p42 : Oper} (O : ValOps ts te tb ti p01 p02 p03 p1 p21 p22 p23 p24 p31 p32 p33 p34 p41 p42) {z : AV} (hz : E.zero te = some z) (hzk : leafs z = k) (sE : szOf E.P te = some k) (aE : aggT E.P te = some true) (hck : c.k = k) (hk2 : 2 ≤ k)
    {xs : List AV} {s : AV} (T : Told E ts te k c.h0 s xs) (hmost : xs.length < mostSeq) {j : Nat} {x : AV} (hx : xs[j]? = some x) {j2 j3 j4 : Nat} (V : VInv c xs s j F m a w)
    {Q : Exit → Act → World → Prop} (hQ : ∀ F' m' a' w', Ext F m F' m' → VInv c xs s (j + 1) F' m' a' w' → Q .normal a' w') :
    (Code.seq (.block 1 (.seq (.region j2 #[p21, p22, p23, p24] false) (.seq (.region j3 #[p31, p32, p33, p34] false) (.cond (.tmp 14) .ret .skip)))) (.region j4 #[p41, p42] false)).wpIn Fence.wide 0 E.P Q a w := by
  have wide : ∀ f, Fence.wide.fn f := fun _ => trivial
  have hjl : j < xs.length := (List.getElem?_eq_some_iff.1 hx).1
  obtain ⟨v0, hv0, hxk⟩ := T.el x (List.mem_of_getElem? hx)
  obtain ⟨h, sh, r⟩ := V.at_.mem
  obtain ⟨p, hp1, hp2⟩ := T.at_ h sh.old j x hx
  have hk1 : 1 ≤ k := by omega
  have s0 : SRl F m 16 ⟨[(0, .fn (.yield c.l) [] []), (5, s), (6, vInt xs.length), (7, vInt j)], h, [], []⟩ a w := ⟨r, V.fr, V.size⟩
  refine wpIn_seq (wpIn_block ?_)
  -- the element in its variable
  have st1 := stepO_op (E := E) (K := noK) (f := 0) (nt := 16) (n0 := 0) (ops := #[p21, p22, p23, p24]) (ds := []) (ls := []) (h := h) O.c1.2.1 (core_of_iaddr O.c1.1 (fr := [(0, .fn (.yield c.l) [] []), (5, s), (6, vInt xs.length), (7, vInt j)]) rfl rfl hp1) (fr' := [(9, p), (0, .fn (.yield c.l) [] []), (5, s), (6, vInt xs.length), (7, vInt j)]) (by rw [O.c1.2.2]; rfl)
  have st2 := stepO_load (E := E) (K := noK) (f := 0) (nt := 16) (n0 := 0) (ops := #[p21, p22, p23, p24]) (ds := []) (ls := []) (h := h) O.c2.1 O.c2.2.1 (fr := [(9, p), (0, .fn (.yield c.l) [] []), (5, s), (6, vInt xs.length), (7, vInt j)]) rfl hp2 (fr' := [(10, x), (9, p), (0, .fn (.yield c.l) [] []), (5, s), (6, vInt xs.length), (7, vInt j)]) (by rw [O.c2.2.2]; rfl)
  have st3 := stepO_alloc (E := E) (K := noK) (f := 0) (nt := 16) (n0 := 0) (ops := #[p21, p22, p23, p24]) (fr := [(10, x), (9, p), (0, .fn (.yield c.l) [] []), (5, s), (6, vInt xs.length), (7, vInt j)]) (h := h) (ds := []) (ls := []) O.c3.1 O.c3.2.1 hz hzk hk1 (fr' := [(4, .ptr h.length 0 0 [] 0), (10, x), (9, p), (0, .fn (.yield c.l) [] []), (5, s), (6, vInt xs.length), (7, vInt j)]) (by rw [O.c3.2.2]; rfl)
  have hset : (h ++ [Row.row k 0 [z] ⟨true, te⟩]).set h.length (.row k 0 [x] ⟨true, te⟩) = h ++ [Row.row k 0 [x] ⟨true, te⟩] := by simp
  have hstore := store_one (P := E.P) (h := h ++ [Row.row k 0 [z] ⟨true, te⟩]) (id := h.length) (gen := 0) (ex := ⟨true, te⟩) (y := x) sE (by simp) hzk hxk (isTupA_of hv0)
  rw [hset] at hstore
  obtain ⟨ds4, ls4, c4, st4⟩ := stepO_store (E := E) (K := noK) (f := 0) (nt := 16) (n0 := 0) (ops := #[p21, p22, p23, p24]) (fr := [(4, .ptr h.length 0 0 [] 0), (10, x), (9, p), (0, .fn (.yield c.l) [] []), (5, s), (6, vInt xs.length), (7, vInt j)]) (ds := []) (ls := []) O.c4.1 O.c4.2.1 O.c4.2.2 rfl rfl hstore
  refine wpIn_seq (region_in wide hE (E := E) (f := 0) (n0 := 0) (runs_cons st1 (runs_cons st2 (runs_cons st3 (runs_cons st4 rfl)))) s0 fun a4 w4 F4 m4 he4 s4 hd4 hsm4 => ?_)
  simp only [Exit.then]
  -- yield is called
  refine wpIn_seq (wpIn_region ?_)
  show wpOpsIn _ _ _ _ _ [0, 1, 2, 3] a4 w4
  have st5 := stepO_op (E := E) (K := noK) (f := 0) (nt := 16) (n0 := 0) (ops := #[p31, p32, p33, p34]) (ds := []) (ls := []) (h := h ++ [Row.row k 0 [x] ⟨true, te⟩]) O.d1.2.1 (core_of_move O.d1.1 (fr := [(4, .ptr h.length 0 0 [] 0), (10, x), (9, p), (0, .fn (.yield c.l) [] []), (5, s), (6, vInt xs.length), (7, vInt j)]) rfl) (fr' := [(11, .fn (.yield c.l) [] []), (4, .ptr h.length 0 0 [] 0), (10, x), (9, p), (0, .fn (.yield c.l) [] []), (5, s), (6, vInt xs.length), (7, vInt j)]) (by rw [O.d1.2.2]; rfl)
  refine stepO_inT wide hE (o := p31) rfl st5 s4.plain fun a5 w5 F5 m5 he5 s5 hp5 hsm5 => ?_
  have st6 := stepO_load (E := E) (K := noK) (f := 0) (nt := 16) (n0 := 0) (ops := #[p31, p32, p33, p34]) (ds := []) (ls := []) (h := h ++ [Row.row k 0 [x] ⟨true, te⟩]) O.d2.1 O.d2.2.1 (fr := [(11, .fn (.yield c.l) [] []), (4, .ptr h.length 0 0 [] 0), (10, x), (9, p), (0, .fn (.yield c.l) [] []), (5, s), (6, vInt xs.length), (7, vInt j)]) rfl
    (load_one sE aE (show (h ++ [Row.row k 0 [x] ⟨true, te⟩])[h.length]? = some (.row k 0 [x] ⟨true, te⟩) by simp) hxk (agg_of hv0 hxk (by omega)).symm) (fr' := [(12, x), (11, .fn (.yield c.l) [] []), (4, .ptr h.length 0 0 [] 0), (10, x), (9, p), (0, .fn (.yield c.l) [] []), (5, s), (6, vInt xs.length), (7, vInt j)]) (by rw [O.d2.2.2]; rfl)
  refine stepO_inT wide hE (o := p32) rfl st6 s5 fun a6 w6 F6 m6 he6 s6 hp6 hsm6 => ?_
  have hd6 : a6.defers = [] := by
    obtain ⟨u5, rfl⟩ := hp5
    obtain ⟨u6, rfl⟩ := hp6
    rw [put_defers, put_defers, hd4, V.defers]
  clear hp5 hp6
  obtain ⟨y10, y10a, y10b⟩ := s6.fr.get 11 (.fn (.yield c.l) [] []) rfl
  simp only [VRel, VL] at y10b
  obtain ⟨_, _, rfl, rfl, rfl⟩ := y10b
  obtain ⟨y11, y11a, y11b⟩ := s6.fr.get 12 x rfl
  have hy11 : y11 = v0 := toV_rel x v0 hv0 y11 y11b
  subst hy11
  have e36 := (he4.trans he5).trans he6
  have hat6 : At c (xs.take j) F6 m6 w6 := ⟨⟨_, sh.push _, s6.rel⟩, V.at_.ext.trans e36, e36.fz _ _ V.at_.loop, e36.fz _ _ V.at_.defer, V.at_.same.trans ((hsm4.trans hsm5).trans hsm6)⟩
  have hl6 := s6.rel.fz _ _ hat6.loop
  have hyr := run_yield (P := E.P) (args := #[y11]) hl6 (by simp [SeqC.rec_])
  have hround := hR 0 (xs.take j) x y11 F6 m6 w6 hat6 (by simp; omega) hv0 (by rw [hxk, hck])
  have hex : (Oper.semAt Fence.wide.round a6.eval p33).run E.P w6 = .ok (.round c.l c.fn (c.tmps.setIfInBounds 7 y11) c.assign c.body) w6 := by
    rw [Oper.semAt_eq _ _ _ (by rw [O.d3.1]; intro c h; cases h)]
    unfold execOp
    rw [O.d3.1]
    have hargs : (#[Operand.tmp 12] : Array Operand).map a6.eval = #[y11] := by simp [eval_tmp y11a]
    simp only [resolve, eval_tmp y10a, Deferred.ofValue, hargs, Sem.run_bind, Sem.run_pure, Result.andThen_ok, invoke]
    rw [show (#[] ++ #[y11] : Array Value) = #[y11] by simp, hyr]
    simp [SeqC.rec_]
  refine op_round (o := p33) rfl O.d3.2.1 hex ((hround.mono ?_))
  rintro e w7 ⟨rfl, F7, m7, he7, hat7⟩
  refine ⟨_, rfl, ?_⟩
  have htake : xs.take j ++ [x] = xs.take (j + 1) := by
    rw [List.take_add_one, hx]
    rfl
  rw [htake] at hat7
  obtain ⟨h7, sh7, r7⟩ := hat7.mem
  have f6 : FRel F6 m6 [(0, .fn (.yield c.l) [] []), (5, s), (6, vInt xs.length), (7, vInt j)] a6.tmps := frel_sub s6.fr fun t y hy => get_four hy rfl rfl rfl rfl
  have s7 : SRl F7 m7 16 ⟨[(13, .v (.bool true)), (0, .fn (.yield c.l) [] []), (5, s), (6, vInt xs.length), (7, vInt j)], h7, [], []⟩ (a6.put p33.dst (.bool true)) w7 :=
    SRl.next (st := ⟨[(0, .fn (.yield c.l) [] []), (5, s), (6, vInt xs.length), (7, vInt j)], h7, [], []⟩) ⟨r7, f6.mono he7, s6.size⟩ (ds := []) (ls := []) (Ext.refl _ _) (dst := p33.dst) (y := .v (.bool true)) (by rw [O.d3.2.2]; rfl) (by simp [VRel, free]) r7
  have st8 := stepO_op (E := E) (K := noK) (f := 0) (nt := 16) (n0 := 0) (ops := #[p31, p32, p33, p34]) (ds := []) (ls := []) (h := h7) O.d4.2.1 (core_of_not O.d4.1 (fr := [(13, .v (.bool true)), (0, .fn (.yield c.l) [] []), (5, s), (6, vInt xs.length), (7, vInt j)]) (b := true) rfl) (fr' := [(14, .v (.bool false)), (13, .v (.bool true)), (0, .fn (.yield c.l) [] []), (5, s), (6, vInt xs.length), (7, vInt j)]) (by rw [O.d4.2.2]; rfl)
  refine stepO_inT wide hE (o := p34) rfl st8 s7 fun a8 w8 F8 m8 he8 s8 hp8 hsm8 => ?_
  have hd8 : a8.defers = [] := by
    obtain ⟨u8, rfl⟩ := hp8
    rw [put_defers, put_defers, hd6]
  clear hp8
  simp only [wpOpsIn, Exit.then]
  obtain ⟨y14, y14a, y14b⟩ := s8.fr.get 14 (.v (.bool false)) rfl
  simp only [VRel] at y14b
  obtain ⟨_, rfl⟩ := y14b
  refine wpIn_cond_false (eval_tmp y14a) (wpIn_skip ?_)
  simp only [Exit.inBlock, Exit.then]
  -- on to the next one
  have w1 : IntKind.i64.wrap ((j : Int) + 1) = ((j + 1 : Nat) : Int) := by
    have : xs.length < 1000000 := hmost
    simp only [IntKind.wrap, IntKind.bits, IntKind.signed]
    simp
    omega
  have st9 := stepO_op (E := E) (K := noK) (f := 0) (nt := 16) (n0 := 0) (ops := #[p41, p42]) (ds := []) (ls := []) (h := h7) O.e1.2.1 (core_of_bin O.e1.1 (fr := [(14, .v (.bool false)), (13, .v (.bool true)), (0, .fn (.yield c.l) [] []), (5, s), (6, vInt xs.length), (7, vInt j)]) rfl rfl (bin_addE (x := (j : Int)) (y := 1))) (fr' := [(15, vInt (j + 1 : Nat)), (14, .v (.bool false)), (13, .v (.bool true)), (0, .fn (.yield c.l) [] []), (5, s), (6, vInt xs.length), (7, vInt j)]) (by rw [O.e1.2.2, w1]; rfl)
  have st10 := stepO_op (E := E) (K := noK) (f := 0) (nt := 16) (n0 := 0) (ops := #[p41, p42]) (ds := []) (ls := []) (h := h7) O.e2.2.1 (core_of_move O.e2.1 (fr := [(15, vInt (j + 1 : Nat)), (14, .v (.bool false)), (13, .v (.bool true)), (0, .fn (.yield c.l) [] []), (5, s), (6, vInt xs.length), (7, vInt j)]) rfl) (fr' := [(7, vInt (j + 1 : Nat)), (15, vInt (j + 1 : Nat)), (14, .v (.bool false)), (13, .v (.bool true)), (0, .fn (.yield c.l) [] []), (5, s), (6, vInt xs.length), (7, vInt j)]) (by rw [O.e2.2.2]; rfl)
  refine region_in wide hE (E := E) (f := 0) (n0 := 0) (runs_cons st9 (runs_cons st10 rfl)) s8 fun a9 w9 F9 m9 he9 s9 hd9 hsm9 => ?_
  have e79 := he8.trans he9
  refine hQ F9 m9 a9 w9 ((e36.trans he7).trans e79) ⟨⟨⟨h7, sh7, s9.rel⟩, hat7.ext.trans e79, e79.fz _ _ hat7.loop, e79.fz _ _ hat7.defer, hat7.same.trans (hsm8.trans hsm9)⟩, frel_sub s9.fr fun t y hy => get_four hy rfl rfl rfl rfl, s9.size, by rw [hd9, hd8]⟩

/-- THE ROUNDS. -/
theorem vals_rounds {E : Env} (hE : E.ZerosOK) {c : SeqC} (hR : RoundOK E.P c) {ts te tb ti k : Nat} {p01 p02 p03 p1 p21 p22 p23 p24 p31 p32 p33 p34 p41 p42 : Oper} (O : ValOps ts te tb ti p01 p02 p03 p1 p21 p22 p23 p24 p31 p32 p33 p34 p41 p42) {z : AV} (hz : E.zero te = some z) (hzk : leafs z = k) (sE : szOf E.P te = some k) (aE : aggT E.P te = some true) (hck : c.k = k) (hk2 : 2 ≤ k)
    {xs : List AV} {s : AV} (T : Told E ts te k c.h0 s xs) (hmost : xs.length < mostSeq) {j1 j2 j3 j4 : Nat}
    {Q : Exit → Act → World → Prop} (hover : ∀ F m a w, VInv c xs s xs.length F m a w → Q (.exit 0) a w) :
    ∀ (n j : Nat) (F : Fz) (m : Mp) (a : Act) (w : World), VInv c xs s j F m a w → j ≤ xs.length → xs.length < j + n →
      Code.roundsIn Fence.wide 0 E.P (.seq (.region j1 #[p1] false) (.seq (.cond (.tmp 8) .skip (.exit 0)) (.seq (.block 1 (.seq (.region j2 #[p21, p22, p23, p24] false) (.seq (.region j3 #[p31, p32, p33, p34] false) (.cond (.tmp 14) .ret .skip)))) (.region j4 #[p41, p42] false)))) Q n a w := by
  have wide : ∀ f, Fence.wide.fn f := fun _ => trivial
  intro n
  induction n with
  | zero => intro j F m a w V h1 h2; omega
  | succ n ih =>
    intro j F m a w V h1 h2
    rw [roundsIn_succ]
    obtain ⟨h, sh, r⟩ := V.at_.mem
    have s0 : SRl F m 16 ⟨[(0, .fn (.yield c.l) [] []), (5, s), (6, vInt xs.length), (7, vInt j)], h, [], []⟩ a w := ⟨r, V.fr, V.size⟩
    have st1 := stepO_op (E := E) (K := noK) (f := 0) (nt := 16) (n0 := 0) (ops := #[p1]) (ds := []) (ls := []) (h := h) O.b1.2.1 (core_of_bin O.b1.1 (fr := [(0, .fn (.yield c.l) [] []), (5, s), (6, vInt xs.length), (7, vInt j)]) rfl rfl (bin_lssE (x := (j : Int)) (y := (xs.length : Int)))) (fr' := [(8, .v (.bool (decide ((j : Int) < xs.length)))), (0, .fn (.yield c.l) [] []), (5, s), (6, vInt xs.length), (7, vInt j)]) (by rw [O.b1.2.2]; rfl)
    refine wpIn_seq (region_in wide hE (E := E) (f := 0) (n0 := 0) (runs_cons st1 rfl) s0 fun a1 w1 F1 m1 he1 s1 hd1 hsm1 => ?_)
    simp only [Exit.then]
    have V1 : VInv c xs s j F1 m1 a1 w1 := ⟨⟨⟨h, sh, s1.rel⟩, V.at_.ext.trans he1, he1.fz _ _ V.at_.loop, he1.fz _ _ V.at_.defer, V.at_.same.trans hsm1⟩, frel_sub s1.fr fun t y hy => get_four hy rfl rfl rfl rfl, s1.size, by rw [hd1, V.defers]⟩
    obtain ⟨y8, y8a, y8b⟩ := s1.fr.get 8 _ rfl
    simp only [VRel] at y8b
    obtain ⟨_, rfl⟩ := y8b
    by_cases hj : j < xs.length
    · have hb : decide ((j : Int) < xs.length) = true := by simp; omega
      rw [hb] at y8a
      refine wpIn_seq (wpIn_cond_true (eval_tmp y8a) (wpIn_skip ?_))
      simp only [Exit.then]
      refine val_round hE hR O hz hzk sE aE hck hk2 T hmost (List.getElem?_eq_getElem hj) V1 fun F' m' a' w' he V' => ?_
      exact ih (j + 1) F' m' a' w' V' (by omega) (by omega)
    · have hb : decide ((j : Int) < xs.length) = false := by simp; omega
      rw [hb] at y8a
      refine wpIn_seq (wpIn_cond_false (eval_tmp y8a) (wpIn_exit ?_))
      simp only [Exit.then]
      have : j = xs.length := by omega
      subst this
      exact hover F1 m1 a1 w1 V1

/-- A SLICE's ITERATOR: it gives every element. -/
theorem iter_vals {E : Env} (hE : E.ZerosOK) {fid : FuncId} {fn : Func} {ts te tb ti k : Nat} {p01 p02 p03 p1 p21 p22 p23 p24 p31 p32 p33 p34 p41 p42 : Oper} (O : ValOps ts te tb ti p01 p02 p03 p1 p21 p22 p23 p24 p31 p32 p33 p34 p41 p42) {z : AV} (hz : E.zero te = some z) (hzk : leafs z = k) (sE : szOf E.P te = some k) (aE : aggT E.P te = some true) (sS : szOf E.P ts = some 1) (aS : aggT E.P ts = some false) (uS : E.P.underlying ts = some (.slice te)) (hk2 : 2 ≤ k)
    {j0 j1 j2 j3 j4 : Nat} (hf : E.P.funcs[fid]? = some fn) (hn : fn.ntmps = 16) (hres : fn.results = #[])
    (hb : fn.body = some (.seq (.region j0 #[p01, p02, p03] false) (.block 0 (.loop (.seq (.region j1 #[p1] false) (.seq (.cond (.tmp 8) .skip (.exit 0)) (.seq (.block 1 (.seq (.region j2 #[p21, p22, p23, p24] false) (.seq (.region j3 #[p31, p32, p33, p34] false) (.cond (.tmp 14) .ret .skip)))) (.region j4 #[p41, p42] false))))))))
    {h0 : Heap} {id gen i o : Nat} {p : List Nat} {s : AV} {xs : List AV} (hlook : lookAt h0 (.ptr id gen i p o) = some s) (T : Told E ts te k h0 s xs) (hmost : xs.length < mostSeq) :
    IterOK E.P fid [.ptr id gen i p o] h0 k (fun ys => ys = xs) := by
  have wide : ∀ f, Fence.wide.fn f := fun _ => trivial
  intro c hR hh hck hDl F m W vs hat hv hl0
  subst hh
  obtain ⟨h, sh, r⟩ := hat.mem
  simp only [VL] at hv
  obtain ⟨pv, _, hp, rfl, rfl⟩ := hv
  refine callsIn_of_wp hf hb trivial ?_
  rw [hn]
  have hlook' : lookAt h (.ptr id gen i p o) = some s := by rw [lookAt_old sh.old (lookAt_lt hlook)]; exact hlook
  have hld : loadE E.P h ts (.ptr id gen i p o) = some s := load_at sS aS hlook' (sliceLen_one T.len).1 (sliceLen_one T.len).2.symm
  have s0 : SRl F m 16 ⟨[(0, .fn (.yield c.l) [] []), (1, .ptr id gen i p o)], h, [], []⟩ { tmps := (#[Value.func (.yield c.l) #[] #[]] ++ [pv].toArray) ++ Array.replicate (16 - (#[Value.func (.yield c.l) #[] #[]] ++ [pv].toArray).size) undef, defers := [] } W := by
    refine ⟨r, ⟨fun t y hy => ?_⟩, by simp⟩
    simp only [AM.get] at hy
    cases h0 : Nat.beq 0 t with
    | true =>
      have := Nat.eq_of_beq_eq_true h0
      subst this
      simp only [h0, cond_true, Option.some.injEq] at hy
      subst hy
      exact ⟨.func (.yield c.l) #[] #[], by simp, by simp [VRel, VL]⟩
    | false =>
      simp only [h0, cond_false] at hy
      cases h1 : Nat.beq 1 t with
      | true =>
        have := Nat.eq_of_beq_eq_true h1
        subst this
        simp only [h1, cond_true, Option.some.injEq] at hy
        subst hy
        exact ⟨pv, by simp, hp⟩
      | false => simp [h1] at hy
  have st1 := stepO_load (E := E) (K := noK) (f := 0) (nt := 16) (n0 := 0) (ops := #[p01, p02, p03]) (fr := [(0, .fn (.yield c.l) [] []), (1, .ptr id gen i p o)]) (fr' := [(5, s), (0, .fn (.yield c.l) [] []), (1, .ptr id gen i p o)]) (h := h) (ds := []) (ls := []) O.a1.1 O.a1.2.1 rfl hld (by rw [O.a1.2.2]; rfl)
  have st2 := stepO_built (E := E) (K := noK) (f := 0) (nt := 16) (n0 := 0) (ops := #[p01, p02, p03]) (fr := [(5, s), (0, .fn (.yield c.l) [] []), (1, .ptr id gen i p o)]) (fr' := [(6, vInt xs.length), (5, s), (0, .fn (.yield c.l) [] []), (1, .ptr id gen i p o)]) (h := h) (ds := []) (ls := []) O.a2.1 O.a2.2.1 (l := [s]) rfl (show lenE E.P h #[ts] s = _ from lenE_slice uS T.len) (by rw [O.a2.2.2]; rfl)
  have st3 := stepO_op (E := E) (K := noK) (f := 0) (nt := 16) (n0 := 0) (ops := #[p01, p02, p03]) (ds := []) (ls := []) (h := h) O.a3.2.1 (core_of_move O.a3.1 (fr := [(6, vInt xs.length), (5, s), (0, .fn (.yield c.l) [] []), (1, .ptr id gen i p o)]) (u := vInt 0) rfl) (fr' := [(7, vInt 0), (6, vInt xs.length), (5, s), (0, .fn (.yield c.l) [] []), (1, .ptr id gen i p o)]) (by rw [O.a3.2.2]; rfl)
  refine wpIn_seq (region_in wide hE (E := E) (f := 0) (n0 := 0) (runs_cons st1 (runs_cons st2 (runs_cons st3 rfl))) s0 fun a1 w1 F1 m1 he1 s1 hd1 hsm1 => ?_)
  have V0 : VInv c xs s 0 F1 m1 a1 w1 := ⟨⟨⟨h, sh, s1.rel⟩, hat.ext.trans he1, he1.fz _ _ hat.loop, he1.fz _ _ hat.defer, hat.same.trans hsm1⟩, frel_sub s1.fr fun t y hy => get_four hy rfl rfl rfl rfl, s1.size, hd1⟩
  refine wpIn_block (wpIn_loop_rounds (xs.length + 1) ?_)
  refine vals_rounds hE hR O hz hzk sE aE hck hk2 T hmost ?_ (xs.length + 1) 0 _ _ _ _ V0 (Nat.zero_le _) (by omega)
  intro F' m' a' w' V'
  simp only [Exit.inBlock, if_true, Exit.then, bodyPost]
  refine ⟨V'.defers, .tuple #[], by simp [results, hres], _, rfl, xs, F', m', rfl, ?_⟩
  have := V'.at_
  rw [List.take_of_length_le (Nat.le_refl _)] at this
  exact this

/-! ### What lays a slice's values behind nothing -/
/-- A slice's elements, of k cells each. -/
def wholeOf (h : Heap) (k : Nat) : AV → Option (List AV)
  | .v (.slice none 0 0) => some []
  | .lit k' _ l => bif Nat.beq k' k then some l else none
  | .sl id gen off len => match elsOf h (.sl id gen off len) with
    | some (k', l) => bif Nat.beq k' k then some l else none
    | none => none
  | _ => none

def plainEls (k : Nat) : List AV → Bool
  | [] => true
  | x :: l => Nat.beq (leafs x) k && (idfree x && ((toV x).isSome && plainEls k l))

theorem plainEls_mem {k : Nat} : ∀ {l : List AV}, plainEls k l = true → ∀ x ∈ l, (∃ v, toV x = some v ∧ leafs x = k) ∧ idfree x = true
  | [], _, x, hx => by simp at hx
  | y :: l, h, x, hx => by
    simp only [plainEls, Bool.and_eq_true] at h
    obtain ⟨h1, h2, h3, h4⟩ := h
    rcases List.mem_cons.1 hx with rfl | hx
    · obtain ⟨v, hv⟩ := Option.isSome_iff_exists.1 h3
      exact ⟨⟨v, hv, Nat.eq_of_beq_eq_true h1⟩, h2⟩
    · exact plainEls_mem h4 x hx

theorem idfreeL_of : ∀ {l : List AV}, (∀ x ∈ l, idfree x = true) → idfreeL l = true
  | [], _ => rfl
  | x :: l, h => by simp [idfreeL, h x (List.mem_cons_self ..), idfreeL_of fun y hy => h y (List.mem_cons_of_mem _ hy)]

def ovVals (gVals k : Nat) (e : TypeId) : Ov := fun args h => match args with
  | [.v (.slice none 0 0), .fn (.func a) [] [.ptr id gen i p o]] => bif Nat.beq a gVals then
      match lookAt h (.ptr id gen i p o) with
      | some s => match wholeOf h k s with
        | some xs => bif plainEls k xs && Nat.blt xs.length mostSeq then
            bif xs.isEmpty then some (.v (.slice none 0 0), h, ⟨[], [], true⟩) else some (.sl h.length 0 0 xs.length, newRow h k xs ⟨false, e⟩, ⟨[], [], false⟩)
          else none
        | none => none
      | none => none
    else none
  | _ => none

theorem ovVals_eq {g k : Nat} {te : TypeId} {args : List AV} {h h' : Heap} {y : AV} {e : Eff} (ho : ovVals g k te args h = some (y, h', e)) : ∃ id gen i p o s xs, args = [nilS, .fn (.func g) [] [.ptr id gen i p o]] ∧ lookAt h (.ptr id gen i p o) = some s ∧ wholeOf h k s = some xs ∧ plainEls k xs = true ∧ xs.length < mostSeq ∧
    ((xs = [] ∧ y = nilS ∧ h' = h ∧ e = ⟨[], [], true⟩) ∨ (xs ≠ [] ∧ y = .sl h.length 0 0 xs.length ∧ h' = newRow h k xs ⟨false, te⟩ ∧ e = ⟨[], [], false⟩)) := by
  unfold ovVals at ho
  split at ho
  · rename_i a' id gen i p o
    cases hb : Nat.beq a' g with
    | false => simp [hb] at ho
    | true =>
      have := Nat.eq_of_beq_eq_true hb
      subst this
      simp only [hb, cond_true] at ho
      split at ho
      · rename_i s hs
        split at ho
        · rename_i xs hx
          cases hz : (plainEls k xs && Nat.blt xs.length mostSeq) with
          | false => simp [hz] at ho
          | true =>
            simp only [hz, cond_true] at ho
            rw [Bool.and_eq_true] at hz
            refine ⟨id, gen, i, p, o, s, xs, rfl, hs, hx, hz.1, Nat.le_of_ble_eq_true hz.2, ?_⟩
            cases xs with
            | nil =>
              simp only [List.isEmpty_nil, cond_true, Option.some.injEq, Prod.mk.injEq] at ho
              obtain ⟨rfl, rfl, rfl⟩ := ho
              exact .inl ⟨rfl, rfl, rfl, rfl⟩
            | cons x xs =>
              simp only [List.isEmpty_cons, cond_false, Option.some.injEq, Prod.mk.injEq] at ho
              obtain ⟨rfl, rfl, rfl⟩ := ho
              exact .inr ⟨by simp, rfl, rfl, rfl⟩
        · cases ho
      · cases ho
  · cases ho

theorem told_of {E : Env} {ts te k : Nat} (uS : E.P.underlying ts = some (.slice te)) (sE : szOf E.P te = some k) (aE : aggT E.P te = some true) (hk2 : 2 ≤ k) {s : AV} {xs : List AV} (hw : wholeOf h k s = some xs) (hp : plainEls k xs = true) : Told E ts te k h s xs := by
  have hel := plainEls_mem hp
  have hld : ∀ (h : Heap) (p x : AV), lookAt h p = some x → x ∈ xs → loadE E.P h te p = some x := fun h p x hl hx => by
    obtain ⟨⟨v, hv, hk⟩, _⟩ := hel x hx
    exact load_at sE aE hl hk (agg_of hv hk (by omega)).symm
  refine ⟨?_, fun h' hold j x hx => ?_, fun x hx => (hel x hx).1⟩
  · unfold wholeOf at hw
    split at hw
    · injection hw with hw; subst hw; rfl
    · rename_i k' b l
      cases hb : Nat.beq k' k with
      | false => simp [hb] at hw
      | true => simp only [hb, cond_true, Option.some.injEq] at hw; subst hw; rfl
    · rename_i id gen off len
      split at hw
      · rename_i k' l hl
        cases hb : Nat.beq k' k with
        | false => simp [hb] at hw
        | true =>
          simp only [hb, cond_true, Option.some.injEq] at hw
          subst hw
          simp only [elsOf] at hl
          split at hl
          · rename_i k1 g els ex hr
            cases hc : (Nat.beq g gen && Nat.ble (off + len) els.length) with
            | false => simp [hc] at hl
            | true =>
              simp only [hc, cond_true, Option.some.injEq, Prod.mk.injEq] at hl
              rw [Bool.and_eq_true] at hc
              have := Nat.le_of_ble_eq_true hc.2
              rw [← hl.2]
              simp [sliceLen]
              omega
          · cases hl
      · cases hw
    · cases hw
  · have hj : j < xs.length := (List.getElem?_eq_some_iff.1 hx).1
    have hmem : x ∈ xs := List.mem_of_getElem? hx
    have hidx : ∀ n : Nat, j < n → idx (vInt j) n = some j := fun n hn => by
      have : (j : Int) < n := by omega
      simp [idx, vInt, this]
    unfold wholeOf at hw
    split at hw
    · injection hw with hw; subst hw; simp at hx
    · rename_i k' b l
      cases hb : Nat.beq k' k with
      | false => simp [hb] at hw
      | true =>
        simp only [hb, cond_true, Option.some.injEq] at hw
        subst hw
        have ek := Nat.eq_of_beq_eq_true hb
        subst ek
        exact ⟨.rop x, by simp [indexAddrE, uS, sE, hidx _ hj, hx], hld _ _ _ rfl hmem⟩
    · rename_i id gen off len
      split at hw
      · rename_i k' l hl
        cases hb : Nat.beq k' k with
        | false => simp [hb] at hw
        | true =>
          simp only [hb, cond_true, Option.some.injEq] at hw
          subst hw
          have ek := Nat.eq_of_beq_eq_true hb
          subst ek
          simp only [elsOf] at hl
          split at hl
          · rename_i k1 g els ex hr
            cases hc : (Nat.beq g gen && Nat.ble (off + len) els.length) with
            | false => simp [hc] at hl
            | true =>
              simp only [hc, cond_true, Option.some.injEq, Prod.mk.injEq] at hl
              obtain ⟨rfl, rfl⟩ := hl
              rw [Bool.and_eq_true] at hc
              have hle := Nat.le_of_ble_eq_true hc.2
              have hlen : ((els.drop off).take len).length = len := by simp; omega
              rw [hlen] at hj
              have hr' : h'[id]? = some (.row k1 g els ex) := by rw [hold id (List.getElem?_eq_some_iff.1 hr).1]; exact hr
              have hx' : els[off + j]? = some x := by
                rw [List.getElem?_take_of_lt hj, List.getElem?_drop] at hx
                exact hx
              refine ⟨.ptr id gen (off + j) [] 0, by simp [indexAddrE, uS, sE, hidx _ hj, hr', hc.1], hld _ _ _ ?_ hmem⟩
              have hn : nav x [] 0 = some x := by unfold nav; simp
              simp [lookAt, hr', hc.1, hx', hn]
          · cases hl
      · cases hw
    · cases hw

/-- THE FUNCTION that lays a slice's values behind nothing. -/
theorem ovVals_ok {E : Env} (hE : E.ZerosOK) {f : FuncId} {fn : Func} {ts te k : Nat} {o0 o1 oA oB o4 : Array Oper} (R : SeqRuns E f ts te k o0 o1 oA oB o4) {i0 i1 iA iB i4 : Nat}
    (hf : E.P.funcs[f]? = some fn) (hb : fn.body = some (.seq (.region i0 o0 false) (.seq (.seq (.region i1 o1 false) (.block 0 (.rangeFunc (.tmp 6) #[7] (.region iA oA false) (.block 1 (.region iB oB false))))) (.seq (.region i4 o4 false) .ret))))
    (hn : fn.ntmps = 13) (hres : fn.results = #[.tmp 4]) (ef : ∀ args w, (callFunc f args).run E.P w = .ok (.enter f args) w) {g : FuncId} (eg : ∀ args w, (callFunc g args).run E.P w = .ok (.enter g args) w)
    (uS : E.P.underlying ts = some (.slice te)) (sE : szOf E.P te = some k) (aE : aggT E.P te = some true) (hk2 : 2 ≤ k)
    (hit : ∀ (h0 : Heap) (id gen i o : Nat) (p : List Nat) (s : AV) (xs : List AV), lookAt h0 (.ptr id gen i p o) = some s → Told E ts te k h0 s xs → xs.length < mostSeq → IterOK E.P g [.ptr id gen i p o] h0 k (fun ys => ys = xs)) : OvOK E.P f (ovVals g k te) := by
  refine ⟨fun args h y h' e ho F m w vs r hv next hnx => ?_, fun args h y h' e ho hq => ?_, fun args h y h' e ho => ?_⟩ <;> obtain ⟨id, gen, i, p, o, s, xs, rfl, hs, hw, hp, hl, hcase⟩ := ovVals_eq ho
  · simp only [VL] at hv
    obtain ⟨v1, _, h1, ⟨v2, _, h2, rfl, rfl⟩, rfl⟩ := hv
    simp only [VRel] at h1 h2
    obtain ⟨_, rfl⟩ := h1
    obtain ⟨ys, zs, g1, g2, rfl⟩ := h2
    simp only [VL] at g1
    subst g1
    have key := seq_calls hE R hf hb hn hres eg (hit h id gen i o p s xs hs (told_of uS sE aE hk2 hw hp) hl) r g2
    rw [ef]
    simp only [UponC]
    refine key.mono ?_
    rintro e w' ⟨v, rfl, ys, F', m', b, h2, rfl, sh, hbox, r2, he, hvb, hsm⟩
    obtain ⟨b', hb', hc⟩ := sh.box
    rw [hbox] at hb'
    injection hb' with hb'
    injection hb' with _ _ hb' _
    injection hb' with hb'
    subst hb'
    rcases hcase with ⟨rfl, rfl, rfl, rfl⟩ | ⟨hne, rfl, rfl, rfl⟩
    · rcases hc with ⟨_, rfl⟩ | ⟨hne, _⟩
      · obtain ⟨r3, e3⟩ := Rel.back r r2 he sh.old
        refine ⟨v, rfl, hnx v w' _ _ e3 ?_ r3 hsm⟩
        simpa [VRel] using hvb
      · exact (hne rfl).elim
    · rcases hc with ⟨hem, _⟩ | ⟨_, id2, gen2, ex, q1, rfl, q2, q3⟩
      · exact (hne hem).elim
      · obtain ⟨r3, e3⟩ := Rel.pick r r2 he sh.old (ex' := ⟨false, te⟩) q1 q2 q3.symm rfl (idfreeL_of fun x hx => (plainEls_mem hp x hx).2)
        refine ⟨v, rfl, hnx v w' _ _ e3 ?_ r3 hsm⟩
        simp only [VRel] at hvb ⊢
        simpa [AM.pick] using hvb
  · rcases hcase with ⟨rfl, rfl, rfl, rfl⟩ | ⟨_, rfl, rfl, rfl⟩
    · exact ⟨rfl, rfl, rfl⟩
    · cases hq
  · rcases hcase with ⟨rfl, rfl, rfl, rfl⟩ | ⟨_, rfl, rfl, rfl⟩
    · exact Law.refl _
    · exact Law.new _ _

end Go.AM
