/- A map's keys, given one by one. Conditions: none. -/
import Derived.Test.YtobdjegooonklaaGreatAmWalk
import Derived.Test.YtobdjegooonklaaGreatAmSeq
import Derived.LoopNIn
set_option linter.unusedVariables false
set_option linter.unusedSimpArgs false
namespace Go.AM
open Go

variable {F F' : Fz} {m m' : Mp} {fr : FR} {a : Act} {h : Heap} {w : World} {P : Program}

theorem op_in {Fc : Fence} {n : Nat} (hF : ∀ f, Fc.fn f) {ops : Array Oper} {Q : Exit → Act → World → Prop} {i : Nat} {rest : List Nat} {o : Oper} {v : Value} {w' : World} (hi : ops[i]? = some o) (hg : o.guard = none) (hp : ∀ c, o.op ≠ .defer c) (hr : (execOp a.eval o).run P w = .ok (.value v) w')
    (hk : wpOpsIn Fc n P ops Q rest (a.put o.dst v) w') : wpOpsIn Fc n P ops Q (i :: rest) a w := by
  simp only [wpOpsIn, hi]
  have hw : Region.wanted o (yielded ops a.tmps) = true := by simp [Region.wanted, hg]
  rw [hw]
  simp only [if_true]
  refine ⟨fun f _ => hF f, ?_⟩
  rw [Oper.semAt_eq _ _ _ hp, hr]
  exact hk

theorem op_round {n : Nat} {ops : Array Oper} {Q : Exit → Act → World → Prop} {i : Nat} {rest : List Nat} {o : Oper} {l : Nat} {f : FuncId} {tmps : Array Value} {assign body : Code} {w' : World} (hi : ops[i]? = some o) (hg : o.guard = none)
    (hr : (Oper.semAt Fence.wide.round a.eval o).run P w = .ok (.round l f tmps assign body) w')
    (hk : RoundIn Fence.wide (n - 1) P l f tmps assign body w' fun e w'' => ∃ v, e = .returned v ∧ wpOpsIn Fence.wide n P ops Q rest (a.put o.dst v) w'') : wpOpsIn Fence.wide n P ops Q (i :: rest) a w := by
  simp only [wpOpsIn, hi]
  have hw : Region.wanted o (yielded ops a.tmps) = true := by simp [Region.wanted, hg]
  rw [hw]
  simp only [if_true]
  refine ⟨fun f _ => trivial, ?_⟩
  rw [hr]
  rw [Oper.uponIn_round]
  refine ⟨fun h => by simp [Fence.wide] at h, hk.mono ?_⟩
  rintro e w1 ⟨v, rfl, h⟩
  exact h

theorem EntR_born : ∀ {es : List (AV × AV × Nat)} {l : List MapEntry}, EntR F m es l → l.map (·.born) = es.map (·.2.2)
  | [], l, h => by simp only [EntR] at h; simp [h]
  | (k, x, b) :: es, l, h => by
    simp only [EntR] at h
    obtain ⟨e, r, h1, h2, h3, h4, rfl⟩ := h
    simp [h3, EntR_born h4]

theorem EntR_at : ∀ {es : List (AV × AV × Nat)} {l : List MapEntry} {i : Nat} {e : MapEntry}, EntR F m es l → l[i]? = some e → ∃ q, es[i]? = some q ∧ VRel F m q.1 e.key ∧ q.2.2 = e.born
  | [], l, i, e, h, he => by simp only [EntR] at h; subst h; simp at he
  | (k, x, b) :: es, l, i, e, h, he => by
    simp only [EntR] at h
    obtain ⟨e0, r, h1, h2, h3, h4, rfl⟩ := h
    cases i with
    | zero =>
      simp only [List.getElem?_cons_zero, Option.some.injEq] at he
      subst he
      exact ⟨(k, x, b), rfl, h1, h3.symm⟩
    | succ i =>
      rw [List.getElem?_cons_succ] at he
      obtain ⟨q, q1, q2⟩ := EntR_at h4 he
      exact ⟨q, by simpa using q1, q2⟩

theorem find_born {l : List MapEntry} (hn : (l.map (·.born)).Nodup) {e : MapEntry} (he : e ∈ l) : l.find? (fun x => x.born == e.born) = some e := by
  induction l with
  | nil => simp at he
  | cons x l ih =>
    simp only [List.map_cons, List.nodup_cons] at hn
    rw [List.find?_cons]
    rcases List.mem_cons.1 he with rfl | he'
    · simp
    · have hne : (x.born == e.born) = false := by
        simp only [beq_eq_false_iff_ne, ne_eq]
        intro e0
        exact hn.1 (e0 ▸ List.mem_map.2 ⟨e, he', rfl⟩)
      rw [hne]
      exact ih hn.2 he'

/-- The operations of a map's iterator. -/
structure KeyOps (tm te tb : Nat) (p01 p02 p11 p12 p21 p22 p23 p24 p31 p32 p33 p34 : Oper) : Prop where
  a1 : p01.op = .load tm (.tmp 1) ∧ p01.guard = none ∧ p01.dst = some 4
  a2 : p02.op = .range tm (.tmp 4) ∧ p02.guard = none ∧ p02.dst = some 5
  b1 : p11.op = .next (.tmp 5) false ∧ p11.guard = none ∧ p11.dst = some 6
  b2 : p12.op = .extract (.tmp 6) 0 ∧ p12.guard = none ∧ p12.dst = some 7
  c1 : p21.op = .entry (.tmp 5) ∧ p21.guard = none ∧ p21.dst = some 8
  c2 : p22.op = .extract (.tmp 8) 0 ∧ p22.guard = none ∧ p22.dst = some 9
  c3 : p23.op = .alloc te ∧ p23.guard = none ∧ p23.dst = some 3
  c4 : p24.op = .store te (.tmp 3) (.tmp 9) ∧ p24.guard = none ∧ p24.dst = none
  d1 : p31.op = .move (.tmp 0) ∧ p31.guard = none ∧ p31.dst = some 10
  d2 : p32.op = .load te (.tmp 3) ∧ p32.guard = none ∧ p32.dst = some 11
  d3 : p33.op = .call { callee := .value (.tmp 10), args := #[.tmp 11], argTypes := #[te] } ∧ p33.guard = none ∧ p33.dst = some 12
  d4 : p34.op = .unOp .not tb (.tmp 12) ∧ p34.guard = none ∧ p34.dst = some 13

def bornsOf (dn : List (AV × AV × Nat)) : Array Nat := (dn.map (·.2.2)).toArray

/-- Between two rounds of the iterator. -/
structure KInv (c : SeqC) (es : List (AV × AV × Nat)) (cl g b : Nat) (dn : List (AV × AV × Nat)) (F : Fz) (m : Mp) (a : Act) (w : World) : Prop where
  at_ : At c (dn.map (·.1)) F m w
  iter : F b = some (.mapIter (some g) cl (bornsOf dn) cl)
  t0 : a.tmps[0]? = some (.func (.yield c.l) #[] #[])
  t5 : a.tmps[5]? = some (.pointer (some ⟨b, 0, none⟩))
  size : a.tmps.size = 14
  defers : a.defers = []
  sub : ∀ e ∈ dn, e ∈ es
  nodup : (dn.map (·.2.2)).Nodup
  base : c.F0 b = none

theorem eval_tmp {a : Act} {t : Tmp} {v : Value} (h : a.tmps[t]? = some v) : a.eval (.tmp t) = v := by simp [Act.eval, h]

theorem put_get {a : Act} {t : Tmp} {v : Value} (h : t < a.tmps.size) : (a.put (some t) v).tmps[t]? = some v := by simp [Act.put, h]

theorem put_size (a : Act) (d : Option Tmp) (v : Value) : (a.put d v).tmps.size = a.tmps.size := by cases d <;> simp [Act.put]

theorem stepO_alloc {E : Env} {K : CallK} {f : FuncId} {nt n0 : Nat} {ops : Array Oper} {o : Oper} {fr fr' : FR} {h : Heap} {ds ls : List Nat} {t : TypeId} {z : AV} {k : Nat} (ho : o.op = .alloc t) (hg : o.guard = none) (hz : E.zero t = some z) (hk : leafs z = k) (h1 : 1 ≤ k) (hp : putF nt fr o.dst (.ptr h.length 0 0 [] 0) = some fr') :
    stepO E K f nt n0 ops o ⟨fr, h, ds, ls⟩ = some (⟨fr', h ++ [.row k 0 [z] ⟨true, t⟩], ds, ls⟩, clsOf E f o fr) := by
  refine stepO_core (x := outOf (.ptr h.length 0 0 [] 0) (h ++ [.row k 0 [z] ⟨true, t⟩]) none (clsOf E f o fr)) hg ?_ hp
  unfold coreO
  simp [ho, opE, hz, hk, Nat.ble_eq_true_of_le h1, AM.newRow]

theorem stepO_store {E : Env} {K : CallK} {f : FuncId} {nt n0 : Nat} {ops : Array Oper} {o : Oper} {fr : FR} {h h' : Heap} {ds ls : List Nat} {t : TypeId} {a x : Operand} {p y : AV} {id : Nat} (ho : o.op = .store t a x) (hg : o.guard = none) (hd : o.dst = none) (ha : ev fr a = some p) (hx : ev fr x = some y) (hs : storeE E.P h t p y = some (h', id)) :
    ∃ ds' ls' c, stepO E K f nt n0 ops o ⟨fr, h, ds, ls⟩ = some (⟨fr, h', ds', ls'⟩, c) := by
  refine ⟨_, _, _, stepO_core (x := outOf (.tup []) h' (some (id, !idfree y)) (clsOf E f o fr)) hg ?_ (by rw [hd]; rfl)⟩
  unfold coreO
  simp only [ho, opE, ha, hx, hs]

/-- AN ENTRY: its key is read, the loop's body runs on it. -/
theorem key_round {E : Env} (hE : E.ZerosOK) {c : SeqC} (hR : RoundOK E.P c) {tm te tb k : Nat} {p01 p02 p11 p12 p21 p22 p23 p24 p31 p32 p33 p34 : Oper} (O : KeyOps tm te tb p01 p02 p11 p12 p21 p22 p23 p24 p31 p32 p33 p34) {z : AV} (hz : E.zero te = some z) (hzk : leafs z = k) (hk1 : 1 ≤ k) (sE : szOf E.P te = some k) (aE : aggT E.P te = some true) (hck : c.k = k) (hk2 : 2 ≤ k)
    {es dn : List (AV × AV × Nat)} {q : AV × AV × Nat} {cl g b : Nat} {ents : Array MapEntry} {e : MapEntry} {v0 : Value} {j2 j3 : Nat}
    (hat : At c (dn.map (·.1)) F m w) (hlen : dn.length < mostSeq) (hit : F b = some (.mapIter (some g) cl (bornsOf (dn ++ [q])) cl)) (hg : w.heap[g]? = some (.map ents cl)) (he : e ∈ ents) (hnd : (ents.toList.map (·.born)).Nodup) (hqe : q.2.2 = e.born) (hv0 : toV q.1 = some v0) (hkey : e.key = v0) (hqk : leafs q.1 = k)
    (hq : q ∈ es) (hsub : ∀ x ∈ dn, x ∈ es) (hnd2 : ((dn ++ [q]).map (·.2.2)).Nodup) (t0 : a.tmps[0]? = some (.func (.yield c.l) #[] #[])) (t5 : a.tmps[5]? = some (.pointer (some ⟨b, 0, none⟩))) (sz : a.tmps.size = 14) (df : a.defers = []) (hb0 : c.F0 b = none)
    {Q : Exit → Act → World → Prop} (hQ : ∀ F' m' a' w', Ext F m F' m' → KInv c es cl g b (dn ++ [q]) F' m' a' w' → Q .normal a' w') :
    (Code.seq (.region j2 #[p21, p22, p23, p24] false) (.seq (.region j3 #[p31, p32, p33, p34] false) (.cond (.tmp 13) .ret .skip))).wpIn Fence.wide 0 E.P Q a w := by
  have wide : ∀ f, Fence.wide.fn f := fun _ => trivial
  obtain ⟨h, sh, r⟩ := hat.mem
  have hiter := r.fz _ _ hit
  have hfind : ents.find? (fun x => x.born == q.2.2) = some e := by
    rw [hqe, ← Array.find?_toList]
    exact find_born hnd (by simpa using he)
  have hbo : bornsOf (dn ++ [q]) = (bornsOf dn).push q.2.2 := by simp [bornsOf]
  rw [hbo] at hiter
  have hrun := entry_run (P := E.P) hiter hg hfind
  have vself := (toV_self (F := F) (m := m) q.1 v0 hv0).1
  -- the entry's key in its variable
  refine wpIn_seq (wpIn_region ?_)
  show wpOpsIn _ _ _ _ _ [0, 1, 2, 3] a w
  refine op_in wide (o := p21) rfl O.c1.2.1 (by rw [O.c1.1]; intro c h; cases h) (v := .tuple #[e.key, e.val]) (w' := w) (by unfold execOp; rw [O.c1.1]; simp [-bind_pure_comp, eval_tmp t5, hrun]) ?_
  rw [O.c1.2.2]
  have g8 : (a.put (some 8) (.tuple #[e.key, e.val])).tmps[8]? = some (.tuple #[e.key, e.val]) := put_get (by rw [sz]; decide)
  refine op_in wide (o := p22) rfl O.c2.2.1 (by rw [O.c2.1]; intro c h; cases h) (v := e.key) (w' := w) (by unfold execOp; rw [O.c2.1]; simp [-bind_pure_comp, eval_tmp g8, Instr.extract]) ?_
  rw [O.c2.2.2]
  obtain ⟨a2, ha2⟩ : ∃ a2, (a.put (some 8) (.tuple #[e.key, e.val])).put (some 9) e.key = a2 := ⟨_, rfl⟩
  have sz2 : a2.tmps.size = 14 := by rw [← ha2, put_size, put_size, sz]
  have g9 : a2.tmps[9]? = some e.key := by rw [← ha2]; exact put_get (by rw [put_size, sz]; decide)
  have g0 : a2.tmps[0]? = some (.func (.yield c.l) #[] #[]) := by rw [← ha2, put_other _ _ _ _ (by simp), put_other _ _ _ _ (by simp)]; exact t0
  have g5 : a2.tmps[5]? = some (.pointer (some ⟨b, 0, none⟩)) := by rw [← ha2, put_other _ _ _ _ (by simp), put_other _ _ _ _ (by simp)]; exact t5
  have gd : a2.defers = [] := by rw [← ha2, put_defers, put_defers]; exact df
  rw [ha2]
  have s2 : SRl F m 14 ⟨[(9, q.1)], h, [], []⟩ a2 w := by
    refine ⟨r, ⟨fun t y hy => ?_⟩, sz2⟩
    simp only [AM.get] at hy
    cases hb : Nat.beq 9 t with
    | true =>
      have := Nat.eq_of_beq_eq_true hb
      subst this
      simp only [hb, cond_true, Option.some.injEq] at hy
      subst hy
      exact ⟨e.key, g9, hkey ▸ vself⟩
    | false => simp [hb] at hy
  have st1 := stepO_alloc (E := E) (K := noK) (f := 0) (nt := 14) (n0 := 0) (ops := #[p21, p22, p23, p24]) (fr := [(9, q.1)]) (h := h) (ds := []) (ls := []) O.c3.1 O.c3.2.1 hz hzk hk1 (fr' := [(3, .ptr h.length 0 0 [] 0), (9, q.1)]) (by rw [O.c3.2.2]; rfl)
  refine stepO_inT wide hE (o := p23) rfl st1 s2 fun a3 w3 F3 m3 he3 s3 hp3 hsm3 => ?_
  have hset : (h ++ [Row.row k 0 [z] ⟨true, te⟩]).set h.length (.row k 0 [q.1] ⟨true, te⟩) = h ++ [Row.row k 0 [q.1] ⟨true, te⟩] := by simp
  have hstore := store_one (P := E.P) (h := h ++ [Row.row k 0 [z] ⟨true, te⟩]) (id := h.length) (gen := 0) (ex := ⟨true, te⟩) (y := q.1) sE (by simp) hzk hqk (isTupA_of hv0)
  rw [hset] at hstore
  obtain ⟨ds4, ls4, c4, st2⟩ := stepO_store (E := E) (K := noK) (f := 0) (nt := 14) (n0 := 0) (ops := #[p21, p22, p23, p24]) (fr := [(3, .ptr h.length 0 0 [] 0), (9, q.1)]) (ds := []) (ls := []) O.c4.1 O.c4.2.1 O.c4.2.2 rfl rfl hstore
  refine stepO_inT wide hE (o := p24) rfl st2 s3 fun a4 w4 F4 m4 he4 s4 hp4 hsm4 => ?_
  obtain ⟨u3, rfl⟩ := hp3
  obtain ⟨u4, rfl⟩ := hp4
  obtain ⟨a4, ha4⟩ : ∃ a4, ((a2.put p23.dst u3).put p24.dst u4) = a4 := ⟨_, rfl⟩
  rw [ha4] at s4
  show Exit.then _ _ .normal ((a2.put p23.dst u3).put p24.dst u4) w4
  rw [ha4]
  have k0 : a4.tmps[0]? = some (.func (.yield c.l) #[] #[]) := by rw [← ha4, O.c4.2.2, O.c3.2.2, put_other _ _ _ _ (by simp), put_other _ _ _ _ (by simp)]; exact g0
  have k5 : a4.tmps[5]? = some (.pointer (some ⟨b, 0, none⟩)) := by rw [← ha4, O.c4.2.2, O.c3.2.2, put_other _ _ _ _ (by simp), put_other _ _ _ _ (by simp)]; exact g5
  have kd : a4.defers = [] := by rw [← ha4, put_defers, put_defers]; exact gd
  have e34 := he3.trans he4
  -- yield is called
  refine wpIn_seq (wpIn_region ?_)
  show wpOpsIn _ _ _ _ _ [0, 1, 2, 3] a4 w4
  refine op_in wide (o := p31) rfl O.d1.2.1 (by rw [O.d1.1]; intro c h; cases h) (v := .func (.yield c.l) #[] #[]) (w' := w4) (by unfold execOp; rw [O.d1.1]; simp [-bind_pure_comp, eval_tmp k0]) ?_
  have s5 : SRl F4 m4 14 ⟨[(10, .fn (.yield c.l) [] []), (3, .ptr h.length 0 0 [] 0), (9, q.1)], h ++ [Row.row k 0 [q.1] ⟨true, te⟩], [], []⟩ (a4.put p31.dst (.func (.yield c.l) #[] #[])) w4 :=
    (s4.plain (ds' := []) (ls' := [])).next (ds := []) (ls := []) (Ext.refl _ _) (dst := p31.dst) (y := .fn (.yield c.l) [] []) (by rw [O.d1.2.2]; rfl) (by simp [VRel, VL]) s4.rel
  have st5 := stepO_load (E := E) (K := noK) (f := 0) (nt := 14) (n0 := 0) (ops := #[p31, p32, p33, p34]) (fr := [(10, .fn (.yield c.l) [] []), (3, .ptr h.length 0 0 [] 0), (9, q.1)]) (fr' := [(11, q.1), (10, .fn (.yield c.l) [] []), (3, .ptr h.length 0 0 [] 0), (9, q.1)]) (h := h ++ [Row.row k 0 [q.1] ⟨true, te⟩]) (ds := []) (ls := []) O.d2.1 O.d2.2.1 rfl
    (load_one sE aE (show (h ++ [Row.row k 0 [q.1] ⟨true, te⟩])[h.length]? = some (.row k 0 [q.1] ⟨true, te⟩) by simp) hqk (agg_of hv0 hqk (by omega)).symm) (by rw [O.d2.2.2]; rfl)
  refine stepO_inT wide hE (o := p32) rfl st5 s5 fun a6 w6 F6 m6 he6 s6 hp6 hsm6 => ?_
  obtain ⟨u6, rfl⟩ := hp6
  obtain ⟨a6, ha6⟩ : ∃ a6, ((a4.put p31.dst (.func (.yield c.l) #[] #[])).put p32.dst u6) = a6 := ⟨_, rfl⟩
  rw [ha6] at s6
  rw [ha6]
  have l0 : a6.tmps[0]? = some (.func (.yield c.l) #[] #[]) := by rw [← ha6, O.d2.2.2, O.d1.2.2, put_other _ _ _ _ (by simp), put_other _ _ _ _ (by simp)]; exact k0
  have l5 : a6.tmps[5]? = some (.pointer (some ⟨b, 0, none⟩)) := by rw [← ha6, O.d2.2.2, O.d1.2.2, put_other _ _ _ _ (by simp), put_other _ _ _ _ (by simp)]; exact k5
  have ld : a6.defers = [] := by rw [← ha6, put_defers, put_defers]; exact kd
  obtain ⟨y10, y10a, y10b⟩ := s6.fr.get 10 (.fn (.yield c.l) [] []) rfl
  simp only [VRel, VL] at y10b
  obtain ⟨_, _, rfl, rfl, rfl⟩ := y10b
  obtain ⟨y11, y11a, y11b⟩ := s6.fr.get 11 q.1 rfl
  have hy11 : y11 = v0 := toV_rel q.1 v0 hv0 y11 y11b
  subst hy11
  have e36 := e34.trans he6
  have hat6 : At c (dn.map (·.1)) F6 m6 w6 := ⟨⟨_, sh.push _, s6.rel⟩, hat.ext.trans e36, e36.fz _ _ hat.loop, e36.fz _ _ hat.defer, hat.same.trans ((hsm3.trans hsm4).trans hsm6)⟩
  have hl6 := s6.rel.fz _ _ hat6.loop
  have hyr := run_yield (P := E.P) (args := #[y11]) hl6 (by simp [SeqC.rec_])
  have hround := hR 0 (dn.map (·.1)) q.1 y11 F6 m6 w6 hat6 (by simpa using hlen) hv0 (by rw [hqk, hck])
  have hex : (Oper.semAt Fence.wide.round a6.eval p33).run E.P w6 = .ok (.round c.l c.fn (c.tmps.setIfInBounds 7 y11) c.assign c.body) w6 := by
    rw [Oper.semAt_eq _ _ _ (by rw [O.d3.1]; intro c h; cases h)]
    unfold execOp
    rw [O.d3.1]
    have hargs : (#[Operand.tmp 11] : Array Operand).map a6.eval = #[y11] := by simp [eval_tmp y11a]
    simp only [resolve, eval_tmp y10a, Deferred.ofValue, hargs, Sem.run_bind, Sem.run_pure, Result.andThen_ok, invoke]
    rw [show (#[] ++ #[y11] : Array Value) = #[y11] by simp, hyr]
    simp [SeqC.rec_]
  refine op_round (o := p33) rfl O.d3.2.1 hex ((hround.mono ?_))
  rintro e w7 ⟨rfl, F7, m7, he7, hat7⟩
  refine ⟨_, rfl, ?_⟩
  rw [O.d3.2.2]
  obtain ⟨a7, ha7⟩ : ∃ a7, a6.put (some 12) (.bool true) = a7 := ⟨_, rfl⟩
  have sz6 : a6.tmps.size = 14 := s6.size
  have n12 : a7.tmps[12]? = some (.bool true) := by rw [← ha7]; exact put_get (by rw [sz6]; decide)
  have n0 : a7.tmps[0]? = some (.func (.yield c.l) #[] #[]) := by rw [← ha7, put_other _ _ _ _ (by simp)]; exact l0
  have n5 : a7.tmps[5]? = some (.pointer (some ⟨b, 0, none⟩)) := by rw [← ha7, put_other _ _ _ _ (by simp)]; exact l5
  have nd : a7.defers = [] := by rw [← ha7, put_defers]; exact ld
  have sz7 : a7.tmps.size = 14 := by rw [← ha7, put_size, sz6]
  rw [ha7]
  refine op_in wide (o := p34) rfl O.d4.2.1 (by rw [O.d4.1]; intro c h; cases h) (v := .bool false) (w' := w7) (by unfold execOp; rw [O.d4.1]; simp [-bind_pure_comp, eval_tmp n12, Op.unary]) ?_
  rw [O.d4.2.2]
  simp only [wpOpsIn, Exit.then]
  have q13 : (a7.put (some 13) (.bool false)).tmps[13]? = some (.bool false) := put_get (by rw [sz7]; decide)
  refine wpIn_cond_false (eval_tmp q13) (wpIn_skip ?_)
  have e37 := e36.trans he7
  refine hQ F7 m7 _ w7 e37 ⟨by simpa using hat7, e37.fz _ _ hit, ?_, ?_, by rw [put_size, sz7], by rw [put_defers]; exact nd, ?_, hnd2, hb0⟩
  · rw [put_other _ _ _ _ (by simp)]; exact n0
  · rw [put_other _ _ _ _ (by simp)]; exact n5
  · intro x hx
    rcases List.mem_append.1 hx with hx | hx
    · exact hsub x hx
    · rw [List.mem_singleton.1 hx]; exact hq

theorem len_le {α β : Type} {f : α → β} : ∀ {dn es : List α}, (dn.map f).Nodup → (∀ x ∈ dn, x ∈ es) → dn.length ≤ es.length
  | [], _, _, _ => Nat.zero_le _
  | x :: dn, es, hn, hs => by
    obtain ⟨s, t, rfl⟩ := List.append_of_mem (hs x (List.mem_cons_self ..))
    simp only [List.map_cons, List.nodup_cons] at hn
    have := len_le (dn := dn) (es := s ++ t) hn.2 (fun y hy => by
      have h1 := hs y (List.mem_cons_of_mem _ hy)
      have hne : y ≠ x := fun e => hn.1 (e ▸ List.mem_map_of_mem hy)
      simp only [List.mem_append, List.mem_cons] at h1 ⊢
      rcases h1 with h1 | h1 | h1
      · exact .inl h1
      · exact (hne h1).elim
      · exact .inr h1)
    simp only [List.length_append, List.length_cons] at this ⊢
    omega

theorem all_perm {α β : Type} {f : α → β} : ∀ {dn es : List α}, (dn.map f).Nodup → (es.map f).Nodup → (∀ x ∈ dn, x ∈ es) → (∀ e ∈ es, f e ∈ dn.map f) → dn.Perm es
  | [], es, _, _, _, h => by
    cases es with
    | nil => exact .nil
    | cons e es => exact absurd (h e (List.mem_cons_self ..)) (by simp)
  | x :: dn, es, hn, he, hs, h => by
    obtain ⟨s, t, rfl⟩ := List.append_of_mem (hs x (List.mem_cons_self ..))
    simp only [List.map_cons, List.nodup_cons] at hn
    have he' : (f x :: (s ++ t).map f).Nodup := by
      have : ((s ++ x :: t).map f).Perm (f x :: (s ++ t).map f) := by
        have := (List.perm_middle (a := x) (l₁ := s) (l₂ := t)).map f
        simpa only [List.map_cons] using this
      exact this.nodup_iff.1 he
    rw [List.nodup_cons] at he'
    have := all_perm (dn := dn) (es := s ++ t) hn.2 he'.2 (fun y hy => by
      have h1 := hs y (List.mem_cons_of_mem _ hy)
      have hne : y ≠ x := fun e => hn.1 (e ▸ List.mem_map_of_mem hy)
      simp only [List.mem_append, List.mem_cons] at h1 ⊢
      rcases h1 with h1 | h1 | h1
      · exact .inl h1
      · exact (hne h1).elim
      · exact .inr h1) (fun e hee => by
      have h1 := h e (by
        simp only [List.mem_append, List.mem_cons] at hee ⊢
        rcases hee with h1 | h1
        · exact .inl h1
        · exact .inr (.inr h1))
      simp only [List.map_cons, List.mem_cons] at h1
      rcases h1 with h1 | h1
      · exact (he'.1 (h1 ▸ List.mem_map_of_mem hee)).elim
      · exact h1)
    exact (this.cons x).trans List.perm_middle.symm

/-- THE ROUNDS of the walk through a map. -/
theorem keys_rounds {E : Env} (hE : E.ZerosOK) {c : SeqC} (hR : RoundOK E.P c) {tm te tb k : Nat} {p01 p02 p11 p12 p21 p22 p23 p24 p31 p32 p33 p34 : Oper} (O : KeyOps tm te tb p01 p02 p11 p12 p21 p22 p23 p24 p31 p32 p33 p34) {z : AV} (hz : E.zero te = some z) (hzk : leafs z = k) (sE : szOf E.P te = some k) (aE : aggT E.P te = some true) (hck : c.k = k) (hk2 : 2 ≤ k)
    {es : List (AV × AV × Nat)} {cl mid g b : Nat} (hmap : c.h0[mid]? = some (.map es cl)) (hnd : (es.map (·.2.2)).Nodup) (hlt : ∀ e ∈ es, e.2.2 < cl) (hkey : ∀ e ∈ es, ∃ v, toV e.1 = some v ∧ leafs e.1 = k) (hmost : es.length < mostSeq) {j1 j2 j3 : Nat}
    {Q : Exit → Act → World → Prop} (hover : ∀ dn F m a w, KInv c es cl g b dn F m a w → (∀ e ∈ es, e.2.2 ∈ dn.map (·.2.2)) → Q (.exit 0) a w) :
    ∀ (n : Nat) (dn : List (AV × AV × Nat)) (F : Fz) (m : Mp) (a : Act) (w : World), KInv c es cl g b dn F m a w → m.map mid = some g → es.length < dn.length + n →
      Code.roundsIn Fence.wide 0 E.P (.seq (.region j1 #[p11, p12] false) (.seq (.cond (.tmp 7) .skip (.exit 0)) (.block 1 (.seq (.region j2 #[p21, p22, p23, p24] false) (.seq (.region j3 #[p31, p32, p33, p34] false) (.cond (.tmp 13) .ret .skip)))))) Q n a w := by
  have wide : ∀ f, Fence.wide.fn f := fun _ => trivial
  intro n
  induction n with
  | zero =>
    intro dn F m a w K _ hl
    have := len_le K.nodup K.sub
    omega
  | succ n ih =>
    intro dn F m a w K hmg hl
    rw [roundsIn_succ]
    obtain ⟨h, sh, r⟩ := K.at_.mem
    have hlen := len_le K.nodup K.sub
    have hmid : mid < c.h0.length := (List.getElem?_eq_some_iff.1 hmap).1
    obtain ⟨g1, ents, x⟩ := r.map _ _ _ (by rw [sh.old mid hmid]; exact hmap)
    have hgg : g1 = g := by have := x.mp; rw [hmg] at this; injection this with this; exact this.symm
    subst hgg
    have hborn := EntR_born x.ents
    have hltE : ∀ e ∈ ents, e.born < cl := fun e he => by
      have : e.born ∈ es.map (·.2.2) := by rw [← hborn]; exact List.mem_map_of_mem (by simpa using he)
      obtain ⟨q, q1, q2⟩ := List.mem_map.1 this
      rw [← q2]
      exact hlt q q1
    have hit := r.fz _ _ K.iter
    refine wpIn_seq (wpIn_region ?_)
    show wpOpsIn _ _ _ _ _ [0, 1] a w
    rcases next_run (P := E.P) hit x.heap hltE p11.type with ⟨hem, hrun⟩ | ⟨e, w1, he, hns, hrun, hh, ho, ht, hou, hdr⟩
    · -- over
      refine op_in wide (o := p11) rfl O.b1.2.1 (by rw [O.b1.1]; intro c h; cases h) (v := .tuple #[.bool false]) (w' := w) (by unfold execOp; rw [O.b1.1]; simp [-bind_pure_comp, eval_tmp K.t5, hrun]) ?_
      rw [O.b1.2.2]
      have g6 : (a.put (some 6) (.tuple #[.bool false])).tmps[6]? = some (.tuple #[.bool false]) := put_get (by rw [K.size]; decide)
      refine op_in wide (o := p12) rfl O.b2.2.1 (by rw [O.b2.1]; intro c h; cases h) (v := .bool false) (w' := w) (by unfold execOp; rw [O.b2.1]; simp [-bind_pure_comp, eval_tmp g6, Instr.extract]) ?_
      rw [O.b2.2.2]
      simp only [wpOpsIn, Exit.then]
      have g7 : ((a.put (some 6) (.tuple #[.bool false])).put (some 7) (.bool false)).tmps[7]? = some (.bool false) := put_get (by rw [put_size, K.size]; decide)
      refine wpIn_seq (wpIn_cond_false (eval_tmp g7) (wpIn_exit ?_))
      simp only [Exit.then]
      refine hover dn F m _ w ⟨K.at_, K.iter, ?_, ?_, by rw [put_size, put_size, K.size], by rw [put_defers, put_defers]; exact K.defers, K.sub, K.nodup, K.base⟩ (fun q hq => ?_)
      · rw [put_other _ _ _ _ (by simp), put_other _ _ _ _ (by simp)]; exact K.t0
      · rw [put_other _ _ _ _ (by simp), put_other _ _ _ _ (by simp)]; exact K.t5
      · have : q.2.2 ∈ ents.toList.map (·.born) := by rw [hborn]; exact List.mem_map_of_mem hq
        obtain ⟨e, e1, e2⟩ := List.mem_map.1 this
        have hne : ¬ (e ∈ ents.filter fun e => !(bornsOf dn).contains e.born) := by rw [hem]; simp
        rw [Array.mem_filter] at hne
        have hc : (bornsOf dn).contains e.born = true := by
          cases hcc : (bornsOf dn).contains e.born with
          | true => rfl
          | false => exact (hne ⟨by simpa using e1, by rw [hcc]; rfl⟩).elim
        rw [← e2]
        simpa [bornsOf] using hc
    · -- an entry
      obtain ⟨i, hi⟩ := List.getElem?_of_mem (show e ∈ ents.toList by simpa using he)
      obtain ⟨q, q1, q2, q3⟩ := EntR_at x.ents hi
      have hq : q ∈ es := List.mem_of_getElem? q1
      obtain ⟨v0, hv0, hqk⟩ := hkey q hq
      have hkv : e.key = v0 := toV_rel q.1 v0 hv0 _ q2
      have hnd2 : ((dn ++ [q]).map (·.2.2)).Nodup := by
        rw [List.map_append, List.nodup_append]
        refine ⟨K.nodup, by simp, fun x1 h1 x2 h2 => ?_⟩
        simp only [List.map_cons, List.map_nil, List.mem_singleton] at h2
        subst h2
        rintro rfl
        have : (bornsOf dn).contains e.born = true := by
          rw [← q3]
          simp only [bornsOf, List.contains_toArray, List.contains_iff_mem]
          exact h1
        rw [hns] at this
        cases this
      have hlen2 := len_le hnd2 (es := es) (fun y hy => by
        rcases List.mem_append.1 hy with hy | hy
        · exact K.sub y hy
        · rw [List.mem_singleton.1 hy]; exact hq)
      simp only [List.length_append, List.length_singleton] at hlen2
      have hlb : b < w.heap.size := (Array.getElem?_eq_some_iff.1 hit).1
      have hw1 : ∀ d, d ≠ b → w1.heap[d]? = w.heap[d]? := fun d hd => by rw [hh]; exact Array.getElem?_setIfInBounds_ne (Ne.symm hd)
      have hw2 : w1.heap[b]? = some (.mapIter (some g1) cl ((bornsOf dn).push e.born) cl) := by rw [hh]; simp [hlb]
      have r1 := r.swap K.iter (fun _ _ _ h => by cases h) hw1 hw2
      have hbo : (bornsOf dn).push e.born = bornsOf (dn ++ [q]) := by simp [bornsOf, q3]
      rw [hbo] at r1
      have hne : ∀ d o, F d = some o → (∀ c0 s0 e0 f0, o ≠ .mapIter c0 s0 e0 f0) → Fz.add F b (.mapIter (some g1) cl (bornsOf (dn ++ [q])) cl) d = some o := fun d o hd ho => by
        have : d ≠ b := fun hh => by subst hh; rw [K.iter] at hd; injection hd with hd; exact ho _ _ _ _ hd.symm
        unfold Fz.add
        rw [if_neg this]
        exact hd
      have ex1 : Ext c.F0 c.m0 (Fz.add F b (.mapIter (some g1) cl (bornsOf (dn ++ [q])) cl)) m := by
        refine ⟨fun d o hd => ?_, K.at_.ext.row, K.at_.ext.map⟩
        have : d ≠ b := fun hh => by subst hh; rw [K.base] at hd; cases hd
        unfold Fz.add
        rw [if_neg this]
        exact K.at_.ext.fz d o hd
      have sm : Same w w1 := ⟨ho, ht, hou, by rw [hh]; simp, hdr⟩
      have at1 : At c (dn.map (·.1)) (Fz.add F b (.mapIter (some g1) cl (bornsOf (dn ++ [q])) cl)) m w1 := ⟨⟨h, sh, r1⟩, ex1, hne _ _ K.at_.loop (fun _ _ _ _ h => by cases h), hne _ _ K.at_.defer (fun _ _ _ _ h => by cases h), K.at_.same.trans sm⟩
      refine op_in wide (o := p11) rfl O.b1.2.1 (by rw [O.b1.1]; intro c h; cases h) (v := .tuple #[.bool true, e.key, e.val]) (w' := w1) (by unfold execOp; rw [O.b1.1]; simp [-bind_pure_comp, eval_tmp K.t5, hrun]) ?_
      rw [O.b1.2.2]
      have g6 : (a.put (some 6) (.tuple #[.bool true, e.key, e.val])).tmps[6]? = some (.tuple #[.bool true, e.key, e.val]) := put_get (by rw [K.size]; decide)
      refine op_in wide (o := p12) rfl O.b2.2.1 (by rw [O.b2.1]; intro c h; cases h) (v := .bool true) (w' := w1) (by unfold execOp; rw [O.b2.1]; simp [-bind_pure_comp, eval_tmp g6, Instr.extract]) ?_
      rw [O.b2.2.2]
      simp only [wpOpsIn, Exit.then]
      have g7 : ((a.put (some 6) (.tuple #[.bool true, e.key, e.val])).put (some 7) (.bool true)).tmps[7]? = some (.bool true) := put_get (by rw [put_size, K.size]; decide)
      refine wpIn_seq (wpIn_cond_true (eval_tmp g7) (wpIn_skip ?_))
      simp only [Exit.then]
      refine wpIn_block ?_
      refine key_round hE hR O hz hzk (by omega) sE aE hck hk2 (g := g1) (cl := cl) (b := b) (F := Fz.add F b (.mapIter (some g1) cl (bornsOf (dn ++ [q])) cl)) (m := m) (es := es) (dn := dn) (q := q) (ents := ents) (e := e) (v0 := v0) at1 (by omega) ?_ ?_ he (by rw [hborn]; exact hnd) q3 hv0 hkv hqk hq K.sub hnd2 ?_ ?_ (by rw [put_size, put_size, K.size]) (by rw [put_defers, put_defers]; exact K.defers) K.base ?_
      · simp [Fz.add]
      · have hgb : g1 ≠ b := fun hh => by subst hh; rw [x.heap] at hit; cases hit
        rw [hw1 _ hgb]
        exact x.heap
      · rw [put_other _ _ _ _ (by simp), put_other _ _ _ _ (by simp)]; exact K.t0
      · rw [put_other _ _ _ _ (by simp), put_other _ _ _ _ (by simp)]; exact K.t5
      · intro F' m' a' w' he' K'
        simp only [Exit.inBlock, Exit.then]
        exact ih (dn ++ [q]) F' m' a' w' K' (he'.map _ _ hmg) (by simp only [List.length_append, List.length_singleton]; omega)

/-- A MAP's ITERATOR: it gives every key once. -/
theorem iter_keys {E : Env} (hE : E.ZerosOK) {fid : FuncId} {fn : Func} {tm te tb k : Nat} {p01 p02 p11 p12 p21 p22 p23 p24 p31 p32 p33 p34 : Oper} (O : KeyOps tm te tb p01 p02 p11 p12 p21 p22 p23 p24 p31 p32 p33 p34) {z : AV} (hz : E.zero te = some z) (hzk : leafs z = k) (sE : szOf E.P te = some k) (aE : aggT E.P te = some true) (sM : szOf E.P tm = some 1) (aM : aggT E.P tm = some false) {kt et : TypeId} (uM : E.P.underlying tm = some (.map kt et)) (hk2 : 2 ≤ k)
    {j0 j1 j2 j3 : Nat} (hf : E.P.funcs[fid]? = some fn) (hn : fn.ntmps = 14) (hres : fn.results = #[])
    (hb : fn.body = some (.seq (.region j0 #[p01, p02] false) (.block 0 (.loop (.seq (.region j1 #[p11, p12] false) (.seq (.cond (.tmp 7) .skip (.exit 0)) (.block 1 (.seq (.region j2 #[p21, p22, p23, p24] false) (.seq (.region j3 #[p31, p32, p33, p34] false) (.cond (.tmp 13) .ret .skip))))))))))
    {h0 : Heap} {id gen i o : Nat} {p : List Nat} {es : List (AV × AV × Nat)} {cl mid : Nat} (hlook : lookAt h0 (.ptr id gen i p o) = some (.map mid)) (hmap : h0[mid]? = some (.map es cl)) (hnd : (es.map (·.2.2)).Nodup) (hlt : ∀ e ∈ es, e.2.2 < cl) (hkey : ∀ e ∈ es, ∃ v, toV e.1 = some v ∧ leafs e.1 = k) (hmost : es.length < mostSeq) :
    IterOK E.P fid [.ptr id gen i p o] h0 k (fun xs => ∃ dn : List (AV × AV × Nat), dn.Perm es ∧ xs = dn.map (·.1)) := by
  have wide : ∀ f, Fence.wide.fn f := fun _ => trivial
  intro c hR hh hck hDl F m W vs hat hv hl0
  subst hh
  obtain ⟨h, sh, r⟩ := hat.mem
  simp only [VL] at hv
  obtain ⟨pv, _, hp, rfl, rfl⟩ := hv
  refine callsIn_of_wp hf hb trivial ?_
  rw [hn]
  have hlook' : lookAt h (.ptr id gen i p o) = some (.map mid) := by rw [lookAt_old sh.old (lookAt_lt hlook)]; exact hlook
  have hld : loadE E.P h tm (.ptr id gen i p o) = some (.map mid) := by simp [loadE, hlook', partE, sM, aM, leafs, isAggA]
  have s0 : SRl F m 14 ⟨[(0, .fn (.yield c.l) [] []), (1, .ptr id gen i p o)], h, [], []⟩ { tmps := (#[Value.func (.yield c.l) #[] #[]] ++ [pv].toArray) ++ Array.replicate (14 - (#[Value.func (.yield c.l) #[] #[]] ++ [pv].toArray).size) undef, defers := [] } W := by
    refine ⟨r, ⟨fun t y hy => ?_⟩, by simp⟩
    simp only [AM.get] at hy
    cases h0 : Nat.beq 0 t with
    | true =>
      have := Nat.eq_of_beq_eq_true h0
      subst this
      simp only [h0, cond_true, Option.some.injEq] at hy
      subst hy
      exact ⟨.func (.yield c.l) #[] #[], by simp, by simp [VRel, VL]⟩
    | false =>
      simp only [h0, cond_false] at hy
      cases h1 : Nat.beq 1 t with
      | true =>
        have := Nat.eq_of_beq_eq_true h1
        subst this
        simp only [h1, cond_true, Option.some.injEq] at hy
        subst hy
        exact ⟨pv, by simp, hp⟩
      | false => simp [h1] at hy
  refine wpIn_seq (wpIn_region ?_)
  show wpOpsIn _ _ _ _ _ [0, 1] _ W
  have st1 := stepO_load (E := E) (K := noK) (f := 0) (nt := 14) (n0 := 0) (ops := #[p01, p02]) (fr := [(0, .fn (.yield c.l) [] []), (1, .ptr id gen i p o)]) (fr' := [(4, .map mid), (0, .fn (.yield c.l) [] []), (1, .ptr id gen i p o)]) (h := h) (ds := []) (ls := []) O.a1.1 O.a1.2.1 rfl hld (by rw [O.a1.2.2]; rfl)
  refine stepO_inT wide hE (o := p01) rfl st1 s0 fun a1 w1 F1 m1 he1 s1 hp1 hsm1 => ?_
  obtain ⟨u1, rfl⟩ := hp1
  obtain ⟨a1, ha1⟩ : ∃ a1, (Act.put { tmps := (#[Value.func (.yield c.l) #[] #[]] ++ [pv].toArray) ++ Array.replicate (14 - (#[Value.func (.yield c.l) #[] #[]] ++ [pv].toArray).size) undef, defers := [] } p01.dst u1) = a1 := ⟨_, rfl⟩
  rw [ha1] at s1
  rw [ha1]
  have hd1 : a1.defers = [] := by rw [← ha1, put_defers]
  obtain ⟨y4, y4a, y4b⟩ := s1.fr.get 4 (.map mid) rfl
  simp only [VRel] at y4b
  obtain ⟨g, hmg, rfl⟩ := y4b
  obtain ⟨y0, y0a, y0b⟩ := s1.fr.get 0 (.fn (.yield c.l) [] []) rfl
  simp only [VRel, VL] at y0b
  obtain ⟨_, _, rfl, rfl, rfl⟩ := y0b
  have hmid : mid < c.h0.length := (List.getElem?_eq_some_iff.1 hmap).1
  obtain ⟨g1, ents, x⟩ := s1.rel.map _ _ _ (by rw [sh.old mid hmid]; exact hmap)
  have hgg : g1 = g := by have := x.mp; rw [hmg] at this; injection this with this; exact this.symm
  subst hgg
  have hrr := range_run (P := E.P) uM x.heap
  refine op_in wide (o := p02) rfl O.a2.2.1 (by rw [O.a2.1]; intro c h; cases h) (v := .pointer (some ⟨w1.heap.size, 0, none⟩)) (w' := w1.alloc (.mapIter (some g1) cl #[] cl)) (by unfold execOp; rw [O.a2.1]; simp [-bind_pure_comp, eval_tmp y4a, hrr]) ?_
  rw [O.a2.2.2]
  simp only [wpOpsIn, Exit.then]
  obtain ⟨r2, e2⟩ := s1.rel.frozenBlock (.mapIter (some g1) cl #[] cl)
  obtain ⟨b, hbd⟩ : ∃ b, w1.heap.size = b := ⟨_, rfl⟩
  rw [hbd] at r2 e2
  have hn1 : F1 b = none := s1.rel.none_at (Nat.le_of_eq hbd)
  have hext1 := hat.ext.trans he1
  have K0 : KInv c es cl g1 b [] (Fz.add F1 b (.mapIter (some g1) cl #[] cl)) m1 (a1.put (some 5) (.pointer (some ⟨b, 0, none⟩))) (w1.alloc (.mapIter (some g1) cl #[] cl)) := by
    refine ⟨⟨⟨h, sh, r2⟩, hext1.trans e2, (he1.trans e2).fz _ _ hat.loop, (he1.trans e2).fz _ _ hat.defer, (hat.same.trans hsm1).trans (same_alloc _ _)⟩, by simp [Fz.add, bornsOf], ?_, ?_, by rw [put_size]; exact s1.size, by rw [put_defers]; exact hd1, (fun _ h => nomatch h), (by simp), ?_⟩
    · rw [put_other _ _ _ _ (by simp)]; exact y0a
    · exact put_get (by rw [s1.size]; decide)
    · cases hcb : c.F0 b with
      | none => rfl
      | some o => rw [hext1.fz _ _ hcb] at hn1; cases hn1
  refine wpIn_block (wpIn_loop_rounds (es.length + 1) ?_)
  rw [hbd]
  refine keys_rounds hE hR O hz hzk sE aE hck hk2 hmap hnd hlt hkey hmost (g := g1) (b := b) (cl := cl) ?_ (es.length + 1) [] _ _ _ _ K0 hmg (by simp)
  intro dn F' m' a' w' K' hall
  simp only [Exit.inBlock, if_true, Exit.then, bodyPost]
  refine ⟨K'.defers, .tuple #[], by simp [results, hres], _, rfl, dn.map (·.1), F', m', ⟨dn, all_perm K'.nodup hnd K'.sub hall, rfl⟩, K'.at_⟩

end Go.AM

set_option linter.unusedVariables false
set_option linter.unusedSimpArgs false
namespace Go.AM
open Go

variable {F F' : Fz} {m m' : Mp} {fr : FR} {a : Act} {h : Heap} {w : World} {P : Program}

/-- The key of a map that has one, laid behind nothing. -/
def ovOneKey (gKeys k : Nat) (e : TypeId) : Ov := fun args h => match args with
  | [.v (.slice none 0 0), .fn (.func a) [] [.ptr id gen i p o]] => bif Nat.beq a gKeys then
      match lookAt h (.ptr id gen i p o) with
      | some (.map m) => match h[m]? with
        | some (.map [(x, _, b)] c) => bif Nat.beq (leafs x) k && (idfree x && (Nat.blt b c && (toV x).isSome)) then some (.sl h.length 0 0 1, newRow h k [x] ⟨false, e⟩, ⟨[], [], false⟩) else none
        | some (.map [] _) => some (.v (.slice none 0 0), h, ⟨[], [], true⟩)
        | _ => none
      | _ => none
    else none
  | _ => none

theorem ovOneKey_eq {g k : Nat} {te : TypeId} {args : List AV} {h h' : Heap} {y : AV} {e : Eff} (ho : ovOneKey g k te args h = some (y, h', e)) : ∃ id gen i p o mid es c, args = [nilS, .fn (.func g) [] [.ptr id gen i p o]] ∧ lookAt h (.ptr id gen i p o) = some (.map mid) ∧ h[mid]? = some (.map es c) ∧
    ((es = [] ∧ y = nilS ∧ h' = h ∧ e = ⟨[], [], true⟩) ∨ ∃ x v b u, es = [(x, v, b)] ∧ leafs x = k ∧ idfree x = true ∧ b < c ∧ toV x = some u ∧ y = .sl h.length 0 0 1 ∧ h' = newRow h k [x] ⟨false, te⟩ ∧ e = ⟨[], [], false⟩) := by
  unfold ovOneKey at ho
  split at ho
  · rename_i a' id gen i p o
    cases hb : Nat.beq a' g with
    | false => simp [hb] at ho
    | true =>
      have := Nat.eq_of_beq_eq_true hb
      subst this
      simp only [hb, cond_true] at ho
      split at ho
      · rename_i mid hs
        split at ho
        · rename_i x v b c hm
          cases hz : (Nat.beq (leafs x) k && (idfree x && (Nat.blt b c && (toV x).isSome))) with
          | false => simp [hz] at ho
          | true =>
            simp only [hz, cond_true, Option.some.injEq, Prod.mk.injEq] at ho
            obtain ⟨rfl, rfl, rfl⟩ := ho
            simp only [Bool.and_eq_true] at hz
            obtain ⟨h1, h2, h3, h4⟩ := hz
            obtain ⟨u, hu⟩ := Option.isSome_iff_exists.1 h4
            exact ⟨id, gen, i, p, o, mid, _, c, rfl, hs, hm, .inr ⟨x, v, b, u, rfl, Nat.eq_of_beq_eq_true h1, h2, Nat.le_of_ble_eq_true h3, hu, rfl, rfl, rfl⟩⟩
        · rename_i c hm
          simp only [Option.some.injEq, Prod.mk.injEq] at ho
          obtain ⟨rfl, rfl, rfl⟩ := ho
          exact ⟨id, gen, i, p, o, mid, _, c, rfl, hs, hm, .inl ⟨rfl, rfl, rfl, rfl⟩⟩
        · cases ho
      · cases ho
  · cases ho

/-- What a function leaves that lays a map's keys. -/
theorem ovOneKey_ok {E : Env} (hE : E.ZerosOK) {f : FuncId} {fn : Func} {ts te k : Nat} {o0 o1 oA oB o4 : Array Oper} (R : SeqRuns E f ts te k o0 o1 oA oB o4) {i0 i1 iA iB i4 : Nat}
    (hf : E.P.funcs[f]? = some fn) (hb : fn.body = some (.seq (.region i0 o0 false) (.seq (.seq (.region i1 o1 false) (.block 0 (.rangeFunc (.tmp 6) #[7] (.region iA oA false) (.block 1 (.region iB oB false))))) (.seq (.region i4 o4 false) .ret))))
    (hn : fn.ntmps = 13) (hres : fn.results = #[.tmp 4]) (ef : ∀ args w, (callFunc f args).run E.P w = .ok (.enter f args) w) {g : FuncId} (eg : ∀ args w, (callFunc g args).run E.P w = .ok (.enter g args) w)
    (hit : ∀ (h0 : Heap) (id gen i o : Nat) (p : List Nat) (es : List (AV × AV × Nat)) (cl mid : Nat), lookAt h0 (.ptr id gen i p o) = some (.map mid) → h0[mid]? = some (.map es cl) → (es.map (·.2.2)).Nodup → (∀ e ∈ es, e.2.2 < cl) → (∀ e ∈ es, ∃ v, toV e.1 = some v ∧ leafs e.1 = k) → es.length < mostSeq →
      IterOK E.P g [.ptr id gen i p o] h0 k (fun xs => ∃ dn : List (AV × AV × Nat), dn.Perm es ∧ xs = dn.map (·.1))) : OvOK E.P f (ovOneKey g k te) := by
  refine ⟨fun args h y h' e ho F m w vs r hv next hnx => ?_, fun args h y h' e ho hq => ?_, fun args h y h' e ho => ?_⟩ <;> obtain ⟨id, gen, i, p, o, mid, es, c, rfl, hs, hm, hcase⟩ := ovOneKey_eq ho
  · simp only [VL] at hv
    obtain ⟨v1, _, h1, ⟨v2, _, h2, rfl, rfl⟩, rfl⟩ := hv
    simp only [VRel] at h1 h2
    obtain ⟨_, rfl⟩ := h1
    obtain ⟨xs, ys, g1, g2, rfl⟩ := h2
    simp only [VL] at g1
    subst g1
    have hI : IterOK E.P g [.ptr id gen i p o] h k (fun xs => ∃ dn : List (AV × AV × Nat), dn.Perm es ∧ xs = dn.map (·.1)) := by
      refine hit h id gen i o p es c mid hs hm ?_ ?_ ?_ ?_ <;> rcases hcase with ⟨rfl, _⟩ | ⟨x, v, b, u, rfl, c1, c2, c3, c4, _⟩
      · simp
      · simp
      · exact fun e he => nomatch he
      · intro e he; rw [List.mem_singleton.1 he]; exact c3
      · exact fun e he => nomatch he
      · intro e he; rw [List.mem_singleton.1 he]; exact ⟨u, c4, c1⟩
      · simp [mostSeq]
      · simp [mostSeq]
    have key := seq_calls hE R hf hb hn hres eg hI r g2
    rw [ef]
    simp only [UponC]
    refine key.mono ?_
    rintro e w' ⟨v, rfl, xs, F', m', b, h2, ⟨dn, hperm, rfl⟩, sh, hbox, r2, he, hvb, hsm⟩
    obtain ⟨b', hb', hc⟩ := sh.box
    rw [hbox] at hb'
    injection hb' with hb'
    injection hb' with _ _ hb' _
    injection hb' with hb'
    subst hb'
    rcases hcase with ⟨rfl, rfl, rfl, rfl⟩ | ⟨x, v1, b1, u, rfl, c1, c2, c3, c4, rfl, rfl, rfl⟩
    · have hdn : dn = [] := hperm.eq_nil
      subst hdn
      rcases hc with ⟨_, rfl⟩ | ⟨hne, _⟩
      · obtain ⟨r3, e3⟩ := Rel.back r r2 he sh.old
        refine ⟨v, rfl, hnx v w' _ _ e3 ?_ r3 hsm⟩
        simpa [VRel] using hvb
      · exact (hne rfl).elim
    · have hdn : dn = [(x, v1, b1)] := List.perm_singleton.1 hperm
      subst hdn
      rcases hc with ⟨hem, _⟩ | ⟨_, id2, gen2, ex, q1, rfl, q2, q3⟩
      · simp at hem
      · obtain ⟨r3, e3⟩ := Rel.pick r r2 he sh.old (ex' := ⟨false, te⟩) q1 q2 q3.symm rfl (by simp [idfreeL, c2])
        refine ⟨v, rfl, hnx v w' _ _ e3 ?_ r3 hsm⟩
        simp only [List.map_cons, List.map_nil, List.length_singleton] at hvb
        simp only [VRel] at hvb ⊢
        simpa [AM.pick] using hvb
  · rcases hcase with ⟨rfl, rfl, rfl, rfl⟩ | ⟨x, v, b, u, rfl, _, _, _, _, rfl, rfl, rfl⟩
    · exact ⟨rfl, rfl, rfl⟩
    · cases hq
  · rcases hcase with ⟨rfl, rfl, rfl, rfl⟩ | ⟨x, v, b, u, rfl, _, _, _, _, rfl, rfl, rfl⟩
    · exact Law.refl _
    · exact Law.new _ _

end Go.AM
