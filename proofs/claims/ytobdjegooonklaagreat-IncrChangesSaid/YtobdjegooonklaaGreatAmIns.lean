/- slices.Insert of one route, at its place. Conditions: none. -/
import Derived.Test.YtobdjegooonklaaGreatAmEarly
import Derived.Test.YtobdjegooonklaaGreatAmOne
import Derived.Test.YtobdjegooonklaaGreatAmSeat1
set_option linter.unusedSimpArgs false
set_option linter.unusedVariables false
set_option maxRecDepth 100000
namespace Go.AM
open Go
variable {F F' : Fz} {m m' : Mp} {fr : FR} {a : Act} {h : Heap} {w : World} {P : Program} {pre : Mp → Prop} {nt : Nat} {st st1 st2 : St}

section
variable {E : Env} {ops : Array Oper} {i : Nat} {o : Oper} {os : List Oper} {fr' : FR}
theorem opsP_op (H : E.OK) (hl : Lasts pre) {y : AV} (hg : o.guard = none) (hc : ∀ K : CallK, coreO E K 0 o st.fr st.h = some (outOf y st.h none (clsOf E 0 o st.fr))) (hp : putF nt st.fr o.dst y = some fr') (h : OpsP E.P pre nt ops (i + 1) os ⟨fr', st.h, st.ds, st.ls⟩ st2) : OpsP E.P pre nt ops i (o :: os) st st2 :=
  opsP_am H (n := 0) (f := 0) (n0 := 0) hl (stepO_op hg (hc _) hp) h
theorem core_of_assign {K : CallK} {f : FuncId} {x : Operand} {u : AV} (ho : o.op = .assign x) (hx : ev fr x = some u) : coreO E K f o fr h = some (outOf u h none (clsOf E f o fr)) := by
  unfold coreO
  simp only [ho, opE, hx]
theorem core_of_slice {K : CallK} {f : FuncId} {t : TypeId} {x : Operand} {lo hi : Option Operand} {u y : AV} {l r : Option AV} (ho : o.op = .slice t x lo hi none) (hx : ev fr x = some u) (hlo : evO' fr lo = some l) (hhi : evO' fr hi = some r) (hs : sliceE E.P h t u l r none = some y) : coreO E K f o fr h = some (outOf y h none (clsOf E f o fr)) := by
  have := Zdk (E := E) (K := K) (f := f) (fr := fr) (h := h) (dst := o.dst) (ty := o.type) (ps := o.pos) (af := o.after) (g := o.guard) (t := t) (x := x) (lo := lo) (hi := hi) (mx := none)
  obtain ⟨d, op, ty, ps, af, g⟩ := o
  simp only at ho
  subst ho
  rw [this, hx, hlo, hhi]
  show o1 (sliceE E.P h t u l r none) h _ = _
  rw [hs]
  rfl
end

/-- Appended behind a slice that has no room, as an operation. -/
theorem append_good {o : Oper} {Z : List (TypeId × AV)} (hZ : ∀ t z, assoc Z t = some z → ∃ i v, P.info? t = some i ∧ i.zero = some v ∧ toV z = some v) (s : SRel F m nt st a w) {tt xt e : TypeId} {i : TypeInfo} {z : Value} {id gen len C g : Nat} {x y : Operand} {u : AV} {xs els : List AV} {ex : Tag}
    (hop : o.op = .call { callee := .builtin .append, args := #[x, y], argTypes := #[tt, xt] }) (hx : ev st.fr x = some (.sl id gen 0 len)) (hy : ev st.fr y = some u) (hr : st.h[id]? = some (.row i.size gen els ex)) (hm : m.row id gen = some (g, C, i.size)) (hle : len ≤ els.length) (hroom : C < len + xs.length) (hu : P.underlying tt = some (.slice e)) (hxt : ∃ d, P.underlying xt = some d) (hi : P.info? e = some i) (hz : i.zero = some z) (ez : z.cells.size = i.size) (hk0 : 1 ≤ i.size) (hby : 1 ≤ i.bytes)
    (hbd : (len + xs.length) * i.bytes ≤ 140737488355328) (hxs : srcEls P Z st.h xt e i.size u = some xs) : Good P F m w (.sl st.h.length 0 0 (len + xs.length)) (newRow st.h i.size (els.take len ++ xs) ⟨false, e⟩) (execOp a.eval o) := by
  have h1 := ev_rel s.fr hx
  have h2 := ev_rel s.fr hy
  have e1 : execOp a.eval o = builtin .append #[tt, xt] o.type (#[x, y].map fun | .const _ => true | _ => false) #[a.eval x, a.eval y] := by
    unfold execOp
    rw [hop]
    have e4 : (#[x, y] : Array Operand).map a.eval = #[a.eval x, a.eval y] := by simp
    simp only [resolve, e4]
    rfl
  rw [e1]
  show Good P F m w _ _ (do pure (.value (← Builtin.append_ #[tt, xt] o.type #[a.eval x, a.eval y])))
  exact (append_fresh hZ s.rel h1 hr hm hle hroom hu hxt hi hz ez hk0 hby hbd hxs h2).good

/-- A copy between rows that are told. -/
theorem cp_sl {d x e e2 k id g off len id2 g2 off2 len2 : Nat} {els els2 : List AV} {ex ex2 : Tag} (hd : P.underlying d = some (.slice e)) (hx : P.underlying x = some (.slice e2)) (hs : szOf P e = some k) (hr : h[id]? = some (.row k g els ex)) (hr2 : h[id2]? = some (.row k g2 els2 ex2)) (ho : off + len ≤ els.length) (ho2 : off2 + len2 ≤ els2.length) (h1 : 1 ≤ len) (h2 : 1 ≤ len2) :
    ∃ b, copyE P h #[d, x] (.sl id g off len) (.sl id2 g2 off2 len2) = some (vInt (min len2 len), h.set id (.row k g (setFrom els off (((els2.drop off2).take len2).take (min len2 len))) ex), some (id, b), .w) := by
  have hl : ((els2.drop off2).take len2).length = len2 := by simp; omega
  have hne : Nat.beq (min len2 len) 0 = false := by rw [beqE]; exact decide_eq_false (by omega)
  generalize hys : (els2.drop off2).take len2 = ys at hl
  refine ⟨!idfreeL (ys.take (min len2 len)), ?_⟩
  simp [copyE, hd, hs, srcEls, hx, elsOf, hr2, bleE, ho2, sliceLen, hys, hl, hne, hr, ho]

theorem cp_part {d x e e2 k id g off len id2 g2 off2 len2 n : Nat} {els els2 : List AV} {ex ex2 : Tag} (hd : P.underlying d = some (.slice e)) (hx : P.underlying x = some (.slice e2)) (hs : szOf P e = some k) (hr : h[id]? = some (.row k g els ex)) (hr2 : h[id2]? = some (.row k g2 els2 ex2)) (hn : min len2 len = n) (ho : off ≤ els.length) (ho2 : off2 + n ≤ els2.length) (h3 : els2.length < off2 + len2) (h1 : 1 ≤ n) :
    ∃ b, cpO (copyE P h #[d, x] (.sl id g off len) (.sl id2 g2 off2 len2)) (copyS P h #[d, x] (.sl id g off len) (.sl id2 g2 off2 len2)) = some (vInt n, h.set id (.row k g (els.take off ++ ((els2.drop off2).take n ++ els.drop (off + n))) ex), some (id, b), .w) := by
  have hno : Nat.ble (off2 + len2) els2.length = false := by rw [bleE]; exact decide_eq_false (by omega)
  have e1 : copyE P h #[d, x] (.sl id g off len) (.sl id2 g2 off2 len2) = none := by
    simp [copyE, hd, hs, srcEls, hx, elsOf, hr2, hno]
  rw [e1]
  refine ⟨!idfreeL ((els2.drop off2).take n), ?_⟩
  show copyS P h #[d, x] (.sl id g off len) (.sl id2 g2 off2 len2) = _
  simp [copyS, hd, hs, hr, hr2, hn, bleE, ho, ho2, h1]

theorem setFrom_tail : ∀ (ys l1 l2 : List AV), l2.length = ys.length → setFrom (l1 ++ l2) l1.length ys = l1 ++ ys
  | [], l1, l2, h => by
    have : l2 = [] := List.eq_nil_of_length_eq_zero (by simpa using h)
    subst this
    simp [setFrom]
  | y :: ys, l1, [], h => by simp at h
  | y :: ys, l1, z :: l2, h => by
    have ih := setFrom_tail ys (l1 ++ [y]) l2 (by simpa using h)
    simp only [setFrom]
    rw [List.set_append_right _ _ (Nat.le_refl _), Nat.sub_self, List.set_cons_zero]
    rw [show l1 ++ y :: l2 = (l1 ++ [y]) ++ l2 by simp, show l1.length + 1 = (l1 ++ [y]).length by simp, ih]
    simp

/-- A row of which less is told. -/
theorem Rel.less (r : Rel F m h w) {id k gen n : Nat} {els : List AV} {ex : Tag} (hi : h[id]? = some (.row k gen els ex)) : Rel F m (h.set id (.row k gen (els.take n) ⟨false, ex.ty⟩)) w := by
  have hidl := lt_of_getElem? hi
  have up : ∀ {i k1 gen1 : Nat} {els1 : List AV} {ex1 : Tag}, (h.set id (.row k gen (els.take n) ⟨false, ex.ty⟩))[i]? = some (.row k1 gen1 els1 ex1) → ∃ els2 ex2, h[i]? = some (.row k1 gen1 els2 ex2) := fun {i k1 gen1 els1 ex1} hx => by
    rcases getElem?_set_row hx with ⟨rfl, h2⟩ | ⟨_, h2⟩
    · injection h2 with a1 a2
      subst a1; subst a2
      exact ⟨els, ex, hi⟩
    · exact ⟨els1, ex1, h2⟩
  have upM : ∀ {i : Nat} {es : List (AV × AV × Nat)} {c : Nat}, (h.set id (.row k gen (els.take n) ⟨false, ex.ty⟩))[i]? = some (.map es c) → h[i]? = some (.map es c) := fun {i es c} hx => by
    rcases getElem?_set_row hx with ⟨rfl, h2⟩ | ⟨_, h2⟩
    · cases h2
    · exact h2
  refine ⟨r.fz, fun i k1 gen1 els1 ex1 hx => ?_, fun i es c hx => r.map _ _ _ (upM hx), fun i gn hn => by simpa using r.fresh i gn hn, fun i hn => by simpa using r.freshM i hn, fun i1 i2 k1 gen1 els1 ex1 k2 gen2 els2 ex2 gg C1 C2 q1 q2 h1 h2 h3 h4 => ?_, fun i1 i2 es1 c1 es2 c2 gg h1 h2 h3 h4 => r.injM _ _ _ _ _ _ _ (upM h1) (upM h2) h3 h4⟩
  · rcases getElem?_set_row hx with ⟨rfl, h2⟩ | ⟨_, h2⟩
    · injection h2 with a1 a2 a3 a4
      subst a1; subst a2; subst a3; subst a4
      obtain ⟨g, C, e, cur, x⟩ := r.row _ _ _ _ _ hi
      have hlen := x.len
      refine ⟨g, C, e, cur, ⟨x.mp, x.pos, x.heap, x.own, x.size, by simp; omega, (fun h => by cases h), x.ty, x.most, allK_take n x.all, ?_, x.gens⟩⟩
      have := CL_take x.cells x.all n
      rw [List.take_take] at this
      rw [List.length_take, Nat.mul_comm, ← Nat.mul_min_mul_left, Nat.mul_comm k1, Nat.mul_comm k1]
      exact this
    · exact r.row _ _ _ _ _ h2
  · obtain ⟨e1, x1, h5⟩ := up h1
    obtain ⟨e2, x2, h6⟩ := up h2
    exact r.inj _ _ _ _ _ _ _ _ _ _ _ _ _ _ _ h5 h6 h3 h4

end Go.AM

namespace Go.Proofs.YtobdjegooonklaaGreat.Early
open Go Go.AM

def S (id gen n : Nat) : AV := .sl id gen 0 n
theorem c127 (n : Nat) (h : Heap) (id gen off len id2 gen2 off2 len2 k k2 : Nat) (els els2 : List AV) (ex ex2 : Tag) (hr : h[id]? = some (.row k gen els ex)) (hr2 : h[id2]? = some (.row k2 gen2 els2 ex2)) (hne : id ≠ id2) (h1 : 1 ≤ len) (h2 : 1 ≤ len2) :
    call E (n + 1) 127 [.sl id gen off len, .sl id2 gen2 off2 len2] h = some (.v (.bool false), h, ⟨[], [], true⟩) := by
  have : Nat.beq id id2 = false := by rw [beqE]; exact decide_eq_false hne
  simp [call, ov_127, ovApart, hr, hr2, this, bleE, h1, h2]

theorem sl_hi {h : Heap} {id gen n : Nat} {els : List AV} {ex : Tag} {q : Nat} (hr : h[id]? = some (.row 20 gen els ex)) (hq : q ≤ n) (hn : n ≤ els.length) : sliceE E.P h 36 (.sl id gen 0 n) none (some (.v (.int .i64 q))) none = some (.sl id gen 0 q) := by
  have h1 : (q : Int) ≤ n := by omega
  have h2 : q ≤ els.length := by omega
  have h3 : (q : Int) ≤ els.length := by omega
  simp [sliceE, und_36, sz_58, hr, bound, h1, h2, h3]
theorem sl_from {h : Heap} {id gen n : Nat} {els : List AV} {ex : Tag} {q : Nat} (hr : h[id]? = some (.row 20 gen els ex)) (hq : q ≤ n) : sliceE E.P h 36 (.sl id gen 0 n) (some (.v (.int .i64 q))) none none = some (.sl id gen q (n - q)) := by
  have h1 : (q : Int) ≤ n := by omega
  simp [sliceE, und_36, sz_58, hr, bound, h1]

/-- The pieces of the code. -/
theorem body113 : ∃ i0 o0 i1 o1 i2 o2 i3 o3 k4 i5 o5 i6 o6 k7 i8 o8 i9 o9 c10 i13 o13 c14, Tryz.f113.body = some (.seq (.region i0 o0 false) (.seq (.region i1 o1 false) (.seq (.region i2 o2 false) (.seq (.seq (.region i3 o3 false) (.cond (.tmp 16) k4 .skip)) (.seq (.region i5 o5 false) (.seq (.seq (.region i6 o6 false) (.cond (.tmp 22) k7 .skip))
      (.seq (.seq (.region i8 o8 false) (.cond (.tmp 31) (.seq (.region i9 o9 false) c10) .skip)) (.seq (.region i13 o13 false) c14)))))))) ∧
    (∀ (n : Nat) (h : Heap) (s v : AV) (i : Nat), ∃ fr, exec E (call E n) n 113 95 h.length (.region i0 o0 false) ⟨[(0, s), (1, vInt i), (2, v)], h, [], []⟩ = some (.normal, ⟨fr, h, [], []⟩) ∧ keepF [0, 1, 2] fr = [(0, s), (1, vInt i), (2, v)]) ∧
    (∀ (n : Nat) (h : Heap) (id gen len : Nat) (v : AV) (i : Nat) (els : List AV) (ex : Tag), h[id]? = some (.row 20 gen els ex) → i ≤ len → ∃ fr, exec E (call E n) n 113 95 h.length (.region i1 o1 false) ⟨[(0, .sl id gen 0 len), (1, vInt i), (2, v)], h, [], []⟩ = some (.normal, ⟨fr, h, [], []⟩) ∧ keepF [0, 1, 2] fr = [(0, .sl id gen 0 len), (1, vInt i), (2, v)]) ∧
    (∀ (n : Nat) (h : Heap) (s v : AV) (i : Nat), sliceLen v = some 1 → ∃ fr, exec E (call E n) n 113 95 h.length (.region i2 o2 false) ⟨[(0, s), (1, vInt i), (2, v)], h, [], []⟩ = some (.normal, ⟨fr, h, [], []⟩) ∧ keepF [0, 1, 2, 7] fr = [(0, s), (1, vInt i), (2, v), (7, vInt 1)]) ∧
    (∀ (n : Nat) (h : Heap) (s v : AV) (i : Nat), ∃ fr, exec E (call E n) n 113 95 h.length (.seq (.region i3 o3 false) (.cond (.tmp 16) k4 .skip)) ⟨[(0, s), (1, vInt i), (2, v), (7, vInt 1)], h, [], []⟩ = some (.normal, ⟨fr, h, [], []⟩) ∧ keepF [0, 1, 2, 7] fr = [(0, s), (1, vInt i), (2, v), (7, vInt 1)]) ∧
    (∀ (n : Nat) (h : Heap) (s v : AV) (i len : Nat), sliceLen s = some len → ∃ fr, exec E (call E n) n 113 95 h.length (.region i5 o5 false) ⟨[(0, s), (1, vInt i), (2, v), (7, vInt 1)], h, [], []⟩ = some (.normal, ⟨fr, h, [], []⟩) ∧ keepF [0, 1, 2, 7, 8] fr = [(0, s), (1, vInt i), (2, v), (7, vInt 1), (8, vInt len)]) ∧
    (∀ (n : Nat) (h : Heap) (s v : AV) (i len : Nat), i < len → ∃ fr, exec E (call E n) n 113 95 h.length (.seq (.region i6 o6 false) (.cond (.tmp 22) k7 .skip)) ⟨[(0, s), (1, vInt i), (2, v), (7, vInt 1), (8, vInt len)], h, [], []⟩ = some (.normal, ⟨fr, h, [], []⟩) ∧ keepF [0, 1, 2, 7, 8] fr = [(0, s), (1, vInt i), (2, v), (7, vInt 1), (8, vInt len)]) ∧
    (∀ (id gen g C len i : Nat) (v : AV) (h : Heap) (ds ls : List Nat), len < mostSeq → ∃ fr, OpsP E.P (CapIs id gen g C 20) 95 o8 0 o8.toList ⟨[(0, .sl id gen 0 len), (1, vInt i), (2, v), (7, vInt 1), (8, vInt len)], h, ds, ls⟩ ⟨fr, h, ds, ls⟩ ∧ keepF [0, 1, 2, 7, 8, 31] fr = [(0, .sl id gen 0 len), (1, vInt i), (2, v), (7, vInt 1), (8, vInt len), (31, .v (.bool (decide ((C : Int) < ((len + 1 : Nat) : Int)))))]) ∧
    (∀ (id gen g C len i : Nat) (v : AV) (h : Heap) (els : List AV) (ex : Tag) (ds ls : List Nat), h[id]? = some (.row 20 gen els ex) → els.length = len → C < len + 1 → i < len → len < mostSeq → ∃ fr, OpsP E.P (CapIs id gen g C 20) 95 o9 0 o9.toList ⟨[(0, .sl id gen 0 len), (1, vInt i), (2, v), (7, vInt 1), (8, vInt len)], h, ds, ls⟩ ⟨fr, AM.newRow h 20 (els.take i ++ List.replicate (len + 1 - i) z58) ⟨false, 58⟩, ds, ls⟩ ∧ keepF [0, 1, 2, 7, 9] fr = [(0, .sl id gen 0 len), (1, vInt i), (2, v), (7, vInt 1), (9, .sl h.length 0 0 (len + 1))]) ∧
    (∀ (id gen g C len i : Nat) (v : AV) (h : Heap) (ds ls : List Nat), len + 1 ≤ C → len < mostSeq → ∃ fr, OpsP E.P (CapIs id gen g C 20) 95 o13 0 o13.toList ⟨[(0, .sl id gen 0 len), (1, vInt i), (2, v), (7, vInt 1), (8, vInt len)], h, ds, ls⟩ ⟨fr, h, ds, ls⟩ ∧ keepF [0, 1, 2, 7, 8] fr = [(0, .sl id gen 0 (len + 1)), (1, vInt i), (2, v), (7, vInt 1), (8, vInt len)]) ∧
    (∀ (n : Nat) (h : Heap) (id gen len i vid vg : Nat) (x : AV) (els : List AV) (ex exv : Tag), h[id]? = some (.row 20 gen els ex) → els.length = len → i < len → len < mostSeq → h[vid]? = some (.row 20 vg [x] exv) →
      ∃ fr ds ls, exec E (call E (n + 1)) (n + 1) 113 95 h.length c10 ⟨[(0, .sl id gen 0 len), (1, vInt i), (2, .sl vid vg 0 1), (7, vInt 1), (9, .sl h.length 0 0 (len + 1))], h ++ [.row 20 0 (els.take i ++ List.replicate (len + 1 - i) z58) ⟨false, 58⟩], [], []⟩ = some (.ret, ⟨fr, h ++ [.row 20 0 (els.take i ++ x :: els.drop i) ⟨false, 58⟩], ds, ls⟩) ∧ AM.get fr 6 = some (.sl h.length 0 0 (len + 1))) ∧
    (∀ (n : Nat) (h : Heap) (id gen len i vid vg : Nat) (x : AV) (els : List AV) (ex exv : Tag), h[id]? = some (.row 20 gen els ex) → els.length = len → i < len → len < mostSeq → h[vid]? = some (.row 20 vg [x] exv) → id ≠ vid →
      ∃ fr ds ls, exec E (call E (n + 1)) (n + 1) 113 95 h.length c14 ⟨[(0, .sl id gen 0 (len + 1)), (1, vInt i), (2, .sl vid vg 0 1), (7, vInt 1), (8, vInt len)], h, [], []⟩ = some (.ret, ⟨fr, h.set id (.row 20 gen (els.take i ++ x :: els.drop i) ex), ds, ls⟩) ∧ AM.get fr 6 = some (.sl id gen 0 (len + 1))) := by
  refine ⟨_, _, _, _, _, _, _, _, _, _, _, _, _, _, _, _, _, _, _, _, _, _, rfl, ?_, ?_, ?_, ?_, ?_, ?_, ?_, ?_, ?_, ?_, ?_⟩
  · intro n h s v i
    rw [exec_code]
    simp -implicitDefEqProofs only [simA, Nat.reduceAdd, Nat.reduceLT, Nat.reduceEqDiff, Nat.reduceLeDiff, Nat.reduceMul, Int.reduceBEq, Int.reduceBNe, Int.reduceLT, Int.reduceLE, Int.reduceAdd, Int.reduceSub, Int.reduceMul, Int.reduceNeg, Nat.reduceSub, Nat.reducePow, Nat.reduceDiv, Nat.reduceMod, und_36, sz_58, ln_36, ap_36_36, src_36, ap_36_3, prs_113_11, prs_113_15, keep_113, E_masks, masks, rows_113, Tryz.f113]
    exact ⟨_, rfl, rfl⟩
  · intro n h id gen len v i els ex hr hq
    have := sl_from hr hq
    rw [exec_code]
    simp -implicitDefEqProofs only [simA, Nat.reduceAdd, Nat.reduceLT, Nat.reduceEqDiff, Nat.reduceLeDiff, Nat.reduceMul, Int.reduceBEq, Int.reduceBNe, Int.reduceLT, Int.reduceLE, Int.reduceAdd, Int.reduceSub, Int.reduceMul, Int.reduceNeg, Nat.reduceSub, Nat.reducePow, Nat.reduceDiv, Nat.reduceMod, und_36, sz_58, ln_36, ap_36_36, src_36, ap_36_3, prs_113_11, prs_113_15, keep_113, E_masks, masks, rows_113, Tryz.f113, this]
    exact ⟨_, rfl, rfl⟩
  · intro n h s v i hv
    rw [exec_code]
    simp -implicitDefEqProofs only [simA, Nat.reduceAdd, Nat.reduceLT, Nat.reduceEqDiff, Nat.reduceLeDiff, Nat.reduceMul, Int.reduceBEq, Int.reduceBNe, Int.reduceLT, Int.reduceLE, Int.reduceAdd, Int.reduceSub, Int.reduceMul, Int.reduceNeg, Nat.reduceSub, Nat.reducePow, Nat.reduceDiv, Nat.reduceMod, und_36, sz_58, ln_36, ap_36_36, src_36, ap_36_3, prs_113_11, prs_113_15, keep_113, E_masks, masks, rows_113, Tryz.f113, hv]
    exact ⟨_, rfl, rfl⟩
  · intro n h s v i
    rw [exec_code]
    simp -implicitDefEqProofs only [simA, Nat.reduceAdd, Nat.reduceLT, Nat.reduceEqDiff, Nat.reduceLeDiff, Nat.reduceMul, Int.reduceBEq, Int.reduceBNe, Int.reduceLT, Int.reduceLE, Int.reduceAdd, Int.reduceSub, Int.reduceMul, Int.reduceNeg, Nat.reduceSub, Nat.reducePow, Nat.reduceDiv, Nat.reduceMod, und_36, sz_58, ln_36, ap_36_36, src_36, ap_36_3, prs_113_11, prs_113_15, keep_113, E_masks, masks, rows_113, Tryz.f113]
    exact ⟨_, rfl, rfl⟩
  · intro n h s v i len hv
    rw [exec_code]
    simp -implicitDefEqProofs only [simA, Nat.reduceAdd, Nat.reduceLT, Nat.reduceEqDiff, Nat.reduceLeDiff, Nat.reduceMul, Int.reduceBEq, Int.reduceBNe, Int.reduceLT, Int.reduceLE, Int.reduceAdd, Int.reduceSub, Int.reduceMul, Int.reduceNeg, Nat.reduceSub, Nat.reducePow, Nat.reduceDiv, Nat.reduceMod, und_36, sz_58, ln_36, ap_36_36, src_36, ap_36_3, prs_113_11, prs_113_15, keep_113, E_masks, masks, rows_113, Tryz.f113, hv]
    exact ⟨_, rfl, rfl⟩
  · intro n h s v i len hlt
    have hb : ((i : Int) == (len : Int)) = false := by simp; omega
    rw [exec_code]
    simp -implicitDefEqProofs only [simA, Nat.reduceAdd, Nat.reduceLT, Nat.reduceEqDiff, Nat.reduceLeDiff, Nat.reduceMul, Int.reduceBEq, Int.reduceBNe, Int.reduceLT, Int.reduceLE, Int.reduceAdd, Int.reduceSub, Int.reduceMul, Int.reduceNeg, Nat.reduceSub, Nat.reducePow, Nat.reduceDiv, Nat.reduceMod, und_36, sz_58, ln_36, ap_36_36, src_36, ap_36_3, prs_113_11, prs_113_15, keep_113, E_masks, masks, rows_113, Tryz.f113, hb]
    exact ⟨_, rfl, rfl⟩
  · intro id gen g C len i v h ds ls hlen
    have hl := capIs_lasts id gen g C 20
    have hlen' : len < 1000000 := hlen
    have w1 : IntKind.i64.wrap ((len : Int) + 1) = ((len + 1 : Nat) : Int) := wrapN1 (n := len) (by omega)
    have hadd : ∀ ox oy, binE E.P .add 3 ox oy (vInt len) (vInt 1) = some (vInt (len + 1)) := fun ox oy => by
      show binE E.P .add 3 ox oy (.v (.int .i64 len)) (.v (.int .i64 1)) = _
      rw [bin_addE, w1]
      rfl
    have hgtr : ∀ ox oy, binE E.P .gtr 3 ox oy (vInt (len + 1)) (vInt C) = some (.v (.bool (decide ((C : Int) < ((len + 1 : Nat) : Int))))) := fun ox oy => Zef
    refine ⟨?fr1, ?a1, ?b1⟩
    case a1 =>
      refine opsP_op e_ok hl rfl (fun K => core_of_move rfl rfl) rfl ?_
      refine opsP_op e_ok hl rfl (fun K => core_of_move rfl rfl) rfl ?_
      refine opsP_op e_ok hl rfl (fun K => core_of_bin rfl rfl rfl (hadd _ _)) rfl ?_
      refine opsP_op e_ok hl rfl (fun K => core_of_move rfl rfl) rfl ?_
      refine opsP_by (ds := ds) (ls := ls) hl rfl (fun F m a w hp s => cap_good s rfl und_36 rfl hp) rfl ?_
      refine opsP_op e_ok hl rfl (fun K => core_of_bin rfl rfl rfl (hgtr _ _)) rfl ?_
      exact opsP_nil
    case b1 => rfl
  · intro id gen g C len i v h els ex ds ls hr hel hC hi hlen
    have hl := capIs_lasts id gen g C 20
    have hlen' : len < 1000000 := hlen
    have w1 : IntKind.i64.wrap ((len : Int) + 1) = ((len + 1 : Nat) : Int) := wrapN1 (n := len) (by omega)
    have hadd : ∀ ox oy, binE E.P .add 3 ox oy (vInt len) (vInt 1) = some (vInt (len + 1)) := fun ox oy => by
      show binE E.P .add 3 ox oy (.v (.int .i64 len)) (.v (.int .i64 1)) = _
      rw [bin_addE, w1]
      rfl
    have w2 : IntKind.i64.wrap (((len + 1 : Nat) : Int) - i) = ((len + 1 - i : Nat) : Int) := by rw [wrap_i64 (by omega) (by omega)]; omega
    have hsub : ∀ ox oy, binE E.P .sub 3 ox oy (vInt (len + 1)) (vInt i) = some (vInt (len + 1 - i)) := fun ox oy => by
      show binE E.P .sub 3 ox oy (.v (.int .i64 ((len + 1 : Nat) : Int))) (.v (.int .i64 (i : Nat))) = _
      rw [Zeb, w2]
      rfl
    have hsl := sl_hi (q := i) hr (Nat.le_of_lt hi) (Nat.le_of_eq hel.symm)
    obtain ⟨inf, zv, q1, q2, q3, q4, q5⟩ := info_of (P := E.P) (t := 58) (k := 20) (b := 48) (by kernel_rfl) (by kernel_rfl) (by kernel_rfl)
    have hsum : i + (List.replicate (len + 1 - i) z58).length = len + 1 := by simp; omega
    have hsrc : srcEls E.P zeros h 3 58 inf.size (.v (.int .i64 ((len + 1 - i : Nat) : Int))) = some (List.replicate (len + 1 - i) z58) := by
      have h1 : ((len + 1 - i : Nat) : Int) ≤ 16777216 := by omega
      have hz : assoc zeros 58 = some z58 := e58
      have hu3 : E.P.underlying 3 = some (.int .i64) := by kernel_rfl
      have hzl : leafs z58 = 20 := rfl
      simp only [srcEls, hu3, hz, hzl, q4]
      simp [h1]
    have key := fun (st : St) (F : Fz) (m : Mp) (a : Act) (w : World) (o : Oper) (hp : CapIs id gen g C 20 m) (s : SRel F m 95 st a w) (hh : st.h = h) (hop : o.op = .call { callee := .builtin .append, args := #[.tmp 34, .tmp 39], argTypes := #[36, 3] }) (h34 : ev st.fr (.tmp 34) = some (.sl id gen 0 i)) (h39 : ev st.fr (.tmp 39) = some (.v (.int .i64 ((len + 1 - i : Nat) : Int)))) =>
      append_good (P := E.P) (Z := zeros) zeros_ok s hop h34 h39 (by rw [hh, q4]; exact hr) (by rw [q4]; exact hp) (by omega) (by rw [hsum]; exact hC) und_36 ⟨_, (by kernel_rfl : E.P.underlying 3 = some (.int .i64))⟩ q1 q2 (by rw [q3, q4]) (by omega) (by omega) (by rw [hsum, q5]; omega) (by rw [hh]; exact hsrc)
    rw [hsum, q4] at key
    refine ⟨?fr2, ?a2, ?b2⟩
    case a2 =>
      refine opsP_op e_ok hl rfl (fun K => core_of_move rfl rfl) rfl ?_
      refine opsP_op e_ok hl rfl (fun K => core_of_move rfl rfl) rfl ?_
      refine opsP_op e_ok hl rfl (fun K => core_of_slice rfl rfl rfl rfl hsl) rfl ?_
      refine opsP_op e_ok hl rfl (fun K => core_of_move rfl rfl) rfl ?_
      refine opsP_op e_ok hl rfl (fun K => core_of_move rfl rfl) rfl ?_
      refine opsP_op e_ok hl rfl (fun K => core_of_bin rfl rfl rfl (hadd _ _)) rfl ?_
      refine opsP_op e_ok hl rfl (fun K => core_of_move rfl rfl) rfl ?_
      refine opsP_op e_ok hl rfl (fun K => core_of_bin rfl rfl rfl (hsub _ _)) rfl ?_
      refine opsP_by (ds := ds) (ls := ls) hl rfl (fun F m a w hp s => key _ F m a w _ hp s rfl rfl rfl rfl) rfl ?_
      refine opsP_op e_ok hl rfl (fun K => core_of_assign rfl rfl) rfl ?_
      exact opsP_nil
    case b2 => rfl
  · intro id gen g C len i v h ds ls hC hlen
    have hl := capIs_lasts id gen g C 20
    have hlen' : len < 1000000 := hlen
    have w1 : IntKind.i64.wrap ((len : Int) + 1) = ((len + 1 : Nat) : Int) := wrapN1 (n := len) (by omega)
    have hadd : ∀ ox oy, binE E.P .add 3 ox oy (vInt len) (vInt 1) = some (vInt (len + 1)) := fun ox oy => by
      show binE E.P .add 3 ox oy (.v (.int .i64 len)) (.v (.int .i64 1)) = _
      rw [bin_addE, w1]
      rfl
    refine ⟨?fr3, ?a3, ?b3⟩
    case a3 =>
      refine opsP_op e_ok hl rfl (fun K => core_of_move rfl rfl) rfl ?_
      refine opsP_op e_ok hl rfl (fun K => core_of_move rfl rfl) rfl ?_
      refine opsP_op e_ok hl rfl (fun K => core_of_move rfl rfl) rfl ?_
      refine opsP_op e_ok hl rfl (fun K => core_of_bin rfl rfl rfl (hadd _ _)) rfl ?_
      refine opsP_by (ds := ds) (ls := ls) hl rfl (fun F m a w hp s => slice_good s rfl und_36 sz_58 rfl rfl hp hC) rfl ?_
      refine opsP_op e_ok hl rfl (fun K => core_of_assign rfl rfl) rfl ?_
      exact opsP_nil
    case b3 => rfl
  · intro n h id gen len i vid vg x els ex exv hr hel hi hlen hv
    have hlen' : len < 1000000 := hlen
    have w1 := wrapN1 (n := i) (by omega)
    have hid := lt_of_getElem? hr
    have hvd := lt_of_getElem? hv
    have hA : (els.take i ++ List.replicate (len + 1 - i) z58).length = len + 1 := by simp; omega
    have hB : (els.take i ++ List.replicate (len + 1 - i) z58).set i x = els.take i ++ x :: List.replicate (len - i) z58 := by
      have hl : (els.take i).length = i := by simp; omega
      rw [List.set_append_right _ _ (by omega), hl, Nat.sub_self, show len + 1 - i = (len - i) + 1 by omega, List.replicate_succ, List.set_cons_zero]
    have hBl : (els.take i ++ x :: List.replicate (len - i) z58).length = len + 1 := by simp; omega
    have old : ∀ (r : Row) (j : Nat), j < h.length → (h ++ [r])[j]? = h[j]? := fun r j hj => List.getElem?_append_left hj
    have f43 := sl_from (h := h ++ [.row 20 0 (els.take i ++ List.replicate (len + 1 - i) z58) ⟨false, 58⟩]) (id := h.length) (gen := 0) (n := len + 1) (q := i) (by rw [end0]; rfl) (by omega)
    obtain ⟨b1, cp1⟩ := cp_sl (P := E.P) (h := h ++ [.row 20 0 (els.take i ++ List.replicate (len + 1 - i) z58) ⟨false, 58⟩]) (id := h.length) (g := 0) (off := i) (len := len + 1 - i) (id2 := vid) (g2 := vg) (off2 := 0) (len2 := 1) und_36 und_36 sz_58 (by rw [end0]; rfl) (by rw [old _ _ hvd]; exact hv) (by rw [hA]; omega) (by simp) (by omega) (by omega)
    have hys : ((List.drop 0 [x]).take 1).take (min 1 (len + 1 - i)) = [x] := by
      rw [show min 1 (len + 1 - i) = 1 by omega]; rfl
    have hset1 : setFrom (els.take i ++ List.replicate (len + 1 - i) z58) i [x] = els.take i ++ x :: List.replicate (len - i) z58 := by simp only [setFrom]; exact hB
    rw [hys, hset1, endS0, List.set_cons_zero] at cp1
    have f50 := sl_from (h := h ++ [.row 20 0 (els.take i ++ x :: List.replicate (len - i) z58) ⟨false, 58⟩]) (id := h.length) (gen := 0) (n := len + 1) (q := i + 1) (by rw [end0]; rfl) (by omega)
    have f53 := sl_from (h := h ++ [.row 20 0 (els.take i ++ x :: List.replicate (len - i) z58) ⟨false, 58⟩]) (id := id) (gen := gen) (n := len) (q := i) (by rw [old _ _ hid]; exact hr) (by omega)
    obtain ⟨b2, cp2⟩ := cp_sl (P := E.P) (h := h ++ [.row 20 0 (els.take i ++ x :: List.replicate (len - i) z58) ⟨false, 58⟩]) (id := h.length) (g := 0) (off := i + 1) (len := len + 1 - (i + 1)) (id2 := id) (g2 := gen) (off2 := i) (len2 := len - i) und_36 und_36 sz_58 (by rw [end0]; rfl) (by rw [old _ _ hid]; exact hr) (by rw [hBl]; omega) (by omega) (by omega) (by omega)
    have hys2 : (((els.drop i).take (len - i)).take (min (len - i) (len + 1 - (i + 1)))) = els.drop i := by
      have hdl : (els.drop i).length = len - i := by simp [hel]
      have ht : (els.drop i).take (len - i) = els.drop i := List.take_of_length_le (by omega)
      rw [show min (len - i) (len + 1 - (i + 1)) = len - i by omega, ht, ht]
    have hset2 : setFrom (els.take i ++ x :: List.replicate (len - i) z58) (i + 1) (els.drop i) = els.take i ++ x :: els.drop i := by
      have hl : (els.take i ++ [x]).length = i + 1 := by simp; omega
      have := setFrom_tail (els.drop i) (els.take i ++ [x]) (List.replicate (len - i) z58) (by simp; omega)
      rw [hl] at this
      simpa using this
    rw [hys2, hset2, endS0, List.set_cons_zero] at cp2
    rw [exec_code]
    simp -implicitDefEqProofs only [simA, Nat.reduceAdd, Nat.reduceLT, Nat.reduceEqDiff, Nat.reduceLeDiff, Nat.reduceMul, Int.reduceBEq, Int.reduceBNe, Int.reduceLT, Int.reduceLE, Int.reduceAdd, Int.reduceSub, Int.reduceMul, Int.reduceNeg, Nat.reduceSub, Nat.reducePow, Nat.reduceDiv, Nat.reduceMod, und_36, sz_58, ln_36, ap_36_36, src_36, ap_36_3, prs_113_11, prs_113_15, keep_113, E_masks, masks, rows_113, Tryz.f113, f43, cp1, f50, f53, cp2, w1, pairsOK, clsOf, compat]
    exact ⟨_, _, _, rfl, rfl⟩
  · intro n h id gen len i vid vg x els ex exv hr hel hi hlen hv hne
    have hlen' : len < 1000000 := hlen
    have w1 := wrapN1 (n := i) (by omega)
    have hid := lt_of_getElem? hr
    have k127 := c127 n h vid vg 0 1 id gen (i + 1) (len + 1 - (i + 1)) 20 20 [x] els exv ex hv hr (Ne.symm hne) (by omega) (by omega)
    have f66 := sl_from (n := len + 1) (q := i + 1) hr (by omega)
    have f76 := sl_from (n := len + 1) (q := i) hr (by omega)
    obtain ⟨b1, cp1⟩ := cp_part (P := E.P) (h := h) (id := id) (g := gen) (off := i + 1) (len := len + 1 - (i + 1)) (id2 := id) (g2 := gen) (off2 := i) (len2 := len + 1 - i) (n := len - i) und_36 und_36 sz_58 hr hr (by omega) (by omega) (by omega) (by omega) (by omega)
    have he1 : els.take (i + 1) ++ ((els.drop i).take (len - i) ++ els.drop (i + 1 + (len - i))) = els.take (i + 1) ++ els.drop i := by
      have hdl : (els.drop i).length = len - i := by simp [hel]
      have ht : (els.drop i).take (len - i) = els.drop i := List.take_of_length_le (by omega)
      have hd : els.drop (i + 1 + (len - i)) = [] := List.drop_eq_nil_of_le (by omega)
      rw [ht, hd, List.append_nil]
    rw [he1] at cp1
    have hr1 : (h.set id (.row 20 gen (els.take (i + 1) ++ els.drop i) ex))[id]? = some (.row 20 gen (els.take (i + 1) ++ els.drop i) ex) := List.getElem?_set_self hid
    have hv1 : (h.set id (.row 20 gen (els.take (i + 1) ++ els.drop i) ex))[vid]? = some (.row 20 vg [x] exv) := by rw [List.getElem?_set_ne hne]; exact hv
    have f80 := sl_from (n := len + 1) (q := i) hr1 (by omega)
    have hl1 : (els.take (i + 1) ++ els.drop i).length = len + 1 := by simp; omega
    obtain ⟨b2, cp2⟩ := cp_sl (P := E.P) (id := id) (g := gen) (off := i) (len := len + 1 - i) (id2 := vid) (g2 := vg) (off2 := 0) (len2 := 1) und_36 und_36 sz_58 hr1 hv1 (by rw [hl1]; omega) (by simp) (by omega) (by omega)
    have hys : ((List.drop 0 [x]).take 1).take (min 1 (len + 1 - i)) = [x] := by
      rw [show min 1 (len + 1 - i) = 1 by omega]; rfl
    have hset1 : setFrom (els.take (i + 1) ++ els.drop i) i [x] = els.take i ++ x :: els.drop i := by
      simp only [setFrom]
      have hl : (els.take i).length = i := by simp; omega
      rw [List.take_succ_eq_append_getElem (by omega), List.append_assoc, List.set_append_right _ _ (by omega), hl, Nat.sub_self]
      simp
    rw [hys, hset1, List.set_set] at cp2
    rw [exec_code]
    simp -implicitDefEqProofs only [simA, Nat.reduceAdd, Nat.reduceLT, Nat.reduceEqDiff, Nat.reduceLeDiff, Nat.reduceMul, Int.reduceBEq, Int.reduceBNe, Int.reduceLT, Int.reduceLE, Int.reduceAdd, Int.reduceSub, Int.reduceMul, Int.reduceNeg, Nat.reduceSub, Nat.reducePow, Nat.reduceDiv, Nat.reduceMod, und_36, sz_58, ln_36, ap_36_36, src_36, ap_36_3, prs_113_11, prs_113_15, keep_113, E_masks, masks, rows_113, Tryz.f113, k127, f66, f76, cp1, f80, cp2, w1, pairsOK, clsOf, compat]
    exact ⟨_, _, _, rfl, rfl⟩

end Go.Proofs.YtobdjegooonklaaGreat.Early

set_option linter.unusedSimpArgs false
set_option linter.unusedVariables false
set_option maxRecDepth 100000
namespace Go.Proofs.YtobdjegooonklaaGreat.Early
open Go Go.AM

variable {F F' : Fz} {m m' : Mp} {h : Heap} {w : World}

noncomputable def ovIns : Ov := fun args h => match args with
  | [.sl id gen 0 len, .v (.int .i64 i), .sl vid vg 0 1] => bif decide (0 ≤ i) && decide (i < (len : Int)) then
      match h[id]?, h[vid]? with
      | some (.row k g els ex), some (.row k' g' [x] _) =>
        bif Nat.beq g gen && (Nat.beq g' vg && (!(Nat.beq id vid) && (Nat.beq k 20 && (Nat.beq k' 20 && (Nat.ble len els.length && (Nat.blt len mostSeq && (Nat.beq ex.ty 58 && idfree x))))))) then
          some (.sl id (gen + 1) 0 (len + 1), h.set id (.row 20 (gen + 1) ((els.take len).take i.toNat ++ x :: (els.take len).drop i.toNat) ⟨false, 58⟩), ⟨[id], [], false⟩)
        else none
      | _, _ => none
    else call E0 300 113 args h
  | _ => call E0 300 113 args h

theorem ovIns_eq {args : List AV} {h h' : Heap} {y : AV} {e : Eff} (ho : ovIns args h = some (y, h', e)) : call E0 300 113 args h = some (y, h', e) ∨
    ∃ (id gen len i vid vg : Nat) (els : List AV) (fl : Bool) (x : AV) (exv : Tag), args = [.sl id gen 0 len, vInt i, .sl vid vg 0 1] ∧ i < len ∧ h[id]? = some (.row 20 gen els ⟨fl, 58⟩) ∧ h[vid]? = some (.row 20 vg [x] exv) ∧ id ≠ vid ∧ len ≤ els.length ∧ len < mostSeq ∧ idfree x = true ∧
      y = .sl id (gen + 1) 0 (len + 1) ∧ h' = h.set id (.row 20 (gen + 1) ((els.take len).take i ++ x :: (els.take len).drop i) ⟨false, 58⟩) ∧ e = ⟨[id], [], false⟩ := by
  unfold ovIns at ho
  split at ho
  · rename_i id gen len i vid vg
    cases hd : (decide (0 ≤ i) && decide (i < (len : Int))) with
    | false => simp only [hd, cond_false] at ho; exact .inl ho
    | true =>
      simp only [hd, cond_true] at ho
      simp only [Bool.and_eq_true, decide_eq_true_eq] at hd
      obtain ⟨d1, d2⟩ := hd
      split at ho
      · rename_i k g els ex k' g' x exv hr hv
        cases hb : (Nat.beq g gen && (Nat.beq g' vg && (!(Nat.beq id vid) && (Nat.beq k 20 && (Nat.beq k' 20 && (Nat.ble len els.length && (Nat.blt len mostSeq && (Nat.beq ex.ty 58 && idfree x)))))))) with
        | false => simp [hb] at ho
        | true =>
          simp only [hb, cond_true, Option.some.injEq, Prod.mk.injEq] at ho
          obtain ⟨rfl, rfl, rfl⟩ := ho
          simp only [Bool.and_eq_true, Bool.not_eq_true'] at hb
          obtain ⟨b1, b2, b3, b4, b5, b6, b7, b8, b9⟩ := hb
          have e1 := Nat.eq_of_beq_eq_true b1
          have e2 := Nat.eq_of_beq_eq_true b2
          have e4 := Nat.eq_of_beq_eq_true b4
          have e5 := Nat.eq_of_beq_eq_true b5
          subst e1; subst e2; subst e4; subst e5
          obtain ⟨fl, ty⟩ := ex
          have e8 : ty = 58 := Nat.eq_of_beq_eq_true b8
          subst e8
          have ei : i = ((i.toNat : Nat) : Int) := by omega
          refine .inr ⟨id, g, len, i.toNat, vid, g', els, fl, x, exv, by rw [vInt, ← ei], by omega, hr, hv, fun e0 => by subst e0; simp at b3, Nat.le_of_ble_eq_true b6, Nat.le_of_ble_eq_true b7, b9, rfl, rfl, rfl⟩
      · cases ho
  · exact .inl ho

/-- The code, where the place lies within: what is left. -/
theorem runs113 {id gen g C len i vid vg : Nat} {x : AV} {els : List AV} {ex exv : Tag} (hr : h[id]? = some (.row 20 gen els ex)) (hel : els.length = len) (hi : i < len) (hlen : len < mostSeq) (hv : h[vid]? = some (.row 20 vg [x] exv)) (hne : id ≠ vid) (hC : len ≤ C) :
    ∃ c fr h2 ds ls, Tryz.f113.body = some c ∧ RunsP E.P (CapIs id gen g C 20) 95 c ⟨[(0, .sl id gen 0 len), (1, vInt i), (2, .sl vid vg 0 1)], h, [], []⟩ .ret ⟨fr, h2, ds, ls⟩ ∧
      ((AM.get fr 6 = some (.sl id gen 0 (len + 1)) ∧ h2 = h.set id (.row 20 gen (els.take i ++ x :: els.drop i) ex)) ∨ (AM.get fr 6 = some (.sl h.length 0 0 (len + 1)) ∧ h2 = h ++ [.row 20 0 (els.take i ++ x :: els.drop i) ⟨false, 58⟩])) := by
  obtain ⟨i0, o0, i1, o1, i2, o2, i3, o3, k4, i5, o5, i6, o6, k7, i8, o8, i9, o9, c10, i13, o13, c14, hb, p0, p1, p2, p3, p5, p6, p8, p9, p13, p10, p14⟩ := body113
  have hl := capIs_lasts id gen g C 20
  have hok := e_ok.prog 113 Tryz.f113 Tryz.func113
  simp only [funcOK, hb, codeOK, Bool.and_eq_true] at hok
  obtain ⟨_, ok0, ok1, ok2, ⟨ok3, ok3'⟩, ok5, ⟨ok6, ok6'⟩, ⟨ok8, ⟨ok9, ok10⟩, _⟩, ok13, ok14⟩ := hok
  obtain ⟨f0, q0, t0⟩ := p0 1 h (.sl id gen 0 len) (.sl vid vg 0 1) i
  obtain ⟨f1, q1, t1⟩ := p1 1 h id gen len (.sl vid vg 0 1) i els ex hr (Nat.le_of_lt hi)
  obtain ⟨f2, q2, t2⟩ := p2 1 h (.sl id gen 0 len) (.sl vid vg 0 1) i rfl
  obtain ⟨f3, q3, t3⟩ := p3 1 h (.sl id gen 0 len) (.sl vid vg 0 1) i
  obtain ⟨f5, q5, t5⟩ := p5 1 h (.sl id gen 0 len) (.sl vid vg 0 1) i len rfl
  obtain ⟨f6, q6, t6⟩ := p6 1 h (.sl id gen 0 len) (.sl vid vg 0 1) i len hi
  obtain ⟨f8, q8, t8⟩ := p8 id gen g C len i (.sl vid vg 0 1) h [] [] hlen
  have r0 := runsP_keep_out [0, 1, 2] (runsP_exec (pre := CapIs id gen g C 20) e_ok (c := .region i0 o0 false) rfl q0)
  have r1 := runsP_keep_out [0, 1, 2] (runsP_exec (pre := CapIs id gen g C 20) e_ok (c := .region i1 o1 false) rfl q1)
  have r2 := runsP_keep_out [0, 1, 2, 7] (runsP_exec (pre := CapIs id gen g C 20) e_ok (c := .region i2 o2 false) rfl q2)
  have r3 := runsP_keep_out [0, 1, 2, 7] (runsP_exec (pre := CapIs id gen g C 20) e_ok (by simp only [codeOK, Bool.and_eq_true]; exact ⟨ok3, ok3'⟩) q3)
  have r5 := runsP_keep_out [0, 1, 2, 7, 8] (runsP_exec (pre := CapIs id gen g C 20) e_ok (c := .region i5 o5 false) rfl q5)
  have r6 := runsP_keep_out [0, 1, 2, 7, 8] (runsP_exec (pre := CapIs id gen g C 20) e_ok (by simp only [codeOK, Bool.and_eq_true]; exact ⟨ok6, ok6'⟩) q6)
  have r8 := runsP_keep_out [0, 1, 2, 7, 8, 31] (runsP_region (id := i8) q8)
  simp only [maskS, t0] at r0
  simp only [maskS, t1] at r1
  simp only [maskS, t2] at r2
  simp only [maskS, t3] at r3
  simp only [maskS, t5] at r5
  simp only [maskS, t6] at r6
  simp only [maskS, t8] at r8
  by_cases hroom : len + 1 ≤ C
  · have hdec : decide ((C : Int) < ((len + 1 : Nat) : Int)) = false := by simp; omega
    rw [hdec] at r8
    obtain ⟨f13, q13, t13⟩ := p13 id gen g C len i (.sl vid vg 0 1) h [] [] hroom hlen
    obtain ⟨f14, ds, ls, q14, g14⟩ := p14 0 h id gen len i vid vg x els ex exv hr hel hi hlen hv hne
    have r13 := runsP_keep_out [0, 1, 2, 7, 8] (runsP_region (id := i13) q13)
    simp only [maskS, t13] at r13
    have r14 := runsP_exec (pre := CapIs id gen g C 20) e_ok ok14 q14
    have rc : RunsP E.P (CapIs id gen g C 20) 95 (.cond (.tmp 31) (.seq (.region i9 o9 false) c10) .skip) ⟨[(0, .sl id gen 0 len), (1, vInt i), (2, .sl vid vg 0 1), (7, vInt 1), (8, vInt len), (31, .v (.bool false))], h, [], []⟩ .normal ⟨[(0, .sl id gen 0 len), (1, vInt i), (2, .sl vid vg 0 1), (7, vInt 1), (8, vInt len)], h, [], []⟩ :=
      runsP_keep_out [0, 1, 2, 7, 8] (runsP_false rfl runsP_skip)
    exact ⟨_, f14, _, ds, ls, hb, runsP_seq hl r0 (runsP_seq hl r1 (runsP_seq hl r2 (runsP_seq hl r3 (runsP_seq hl r5 (runsP_seq hl r6 (runsP_seq hl (runsP_seq hl r8 rc) (runsP_seq hl r13 r14))))))), .inl ⟨g14, rfl⟩⟩
  · have hdec : decide ((C : Int) < ((len + 1 : Nat) : Int)) = true := by simp; omega
    rw [hdec] at r8
    obtain ⟨f9, q9, t9⟩ := p9 id gen g C len i (.sl vid vg 0 1) h els ex [] [] hr hel (by omega) hi hlen
    obtain ⟨f10, ds, ls, q10, g10⟩ := p10 0 h id gen len i vid vg x els ex exv hr hel hi hlen hv
    have r9 := runsP_keep [0, 1, 2, 7, 8] (c := .region i9 o9 false) (st := ⟨[(0, .sl id gen 0 len), (1, vInt i), (2, .sl vid vg 0 1), (7, vInt 1), (8, vInt len), (31, .v (.bool true))], h, [], []⟩) (runsP_keep_out [0, 1, 2, 7, 9] (runsP_region (id := i9) q9))
    simp only [maskS, t9] at r9
    have r10 := runsP_exec (pre := CapIs id gen g C 20) e_ok ok10 q10
    have rc : RunsP E.P (CapIs id gen g C 20) 95 (.cond (.tmp 31) (.seq (.region i9 o9 false) c10) .skip) ⟨[(0, .sl id gen 0 len), (1, vInt i), (2, .sl vid vg 0 1), (7, vInt 1), (8, vInt len), (31, .v (.bool true))], h, [], []⟩ .ret _ :=
      runsP_true rfl (runsP_seq hl r9 r10)
    exact ⟨_, f10, _, ds, ls, hb, runsP_seq hl r0 (runsP_seq hl r1 (runsP_seq hl r2 (runsP_seq hl r3 (runsP_seq hl r5 (runsP_seq hl r6 (runsP_stop (runsP_seq hl r8 rc))))))), .inr ⟨g10, rfl⟩⟩

theorem ovIns_ok : OvOK Tryz.prog 113 ovIns := by
  obtain ⟨c0, hb0⟩ : ∃ c, Tryz.f113.body = some c := ⟨_, rfl⟩
  have ef : ∀ args w, (callFunc 113 args).run Tryz.prog w = .ok (.enter 113 args) w := enters Tryz.func113 hb0 rfl
  refine ⟨fun args h y h' e ho F m w vs r hv next hnx => ?_, fun args h y h' e ho hq => ?_, fun args h y h' e ho => ?_⟩ <;> rcases ovIns_eq ho with hc | ⟨id, gen, len, i, vid, vg, els, fl, x, exv, rfl, hi, hr, hvr, hne, hle, hlen, hx, rfl, rfl, rfl⟩
  · exact (call_ok e0_ok 300).1 _ _ _ _ _ _ hc F m w vs r hv next hnx
  · have hid := lt_of_getElem? hr
    have r1 := r.less (n := len) hr
    obtain ⟨g, C, e, cur, xr⟩ := r.row _ _ _ _ _ hr
    have hC : len ≤ C := Nat.le_trans hle xr.len
    have hr1 : (h.set id (.row 20 gen (els.take len) ⟨false, 58⟩))[id]? = some (.row 20 gen (els.take len) ⟨false, 58⟩) := List.getElem?_set_self hid
    have hv1 : (h.set id (.row 20 gen (els.take len) ⟨false, 58⟩))[vid]? = some (.row 20 vg [x] exv) := by rw [List.getElem?_set_ne hne]; exact hvr
    have hl1 : (h.set id (.row 20 gen (els.take len) ⟨false, 58⟩)).length = h.length := by simp
    obtain ⟨c, fr, h2, ds, ls, hb, hrun, hcase⟩ := runs113 (g := g) (C := C) hr1 (by simp; omega) hi hlen hv1 hne hC
    rw [ef]
    simp only [UponC]
    refine calls_of_wp Tryz.func113 hb ?_
    have hvl := VL_len hv
    have s0 : SRel F m 95 ⟨[(0, .sl id gen 0 len), (1, vInt i), (2, .sl vid vg 0 1)], h.set id (.row 20 gen (els.take len) ⟨false, 58⟩), [], []⟩ { tmps := vs.toArray ++ Array.replicate (95 - vs.toArray.size) undef, defers := [] } w := by
      refine ⟨r1, ⟨fun t z hz => ?_⟩, by simp [hvl], rfl⟩
      obtain ⟨j, v, h1, h2, h3⟩ := args0_get [.sl id gen 0 len, vInt i, .sl vid vg 0 1] vs 0 t z hv hz
      have ht : t = j := by omega
      subst ht
      have hlt := lt_of_getElem? h2
      refine ⟨v, ?_, h3⟩
      rw [Array.getElem?_append_left (by simpa using hlt)]
      simpa using h2
    refine hrun F m _ w xr.mp s0 _ fun a' w' F' m' he s' hsm => ?_
    have newlt : ∀ n, idltL n els → idltL n ((els.take len).take i ++ x :: (els.take len).drop i) := fun n hn => by
      have h1 := idltL_take (k := len) hn
      refine idltL_append (idltL_take h1) ?_
      simp only [idltL]
      exact ⟨idfree_lt n x hx, idltL_drop h1⟩
    rcases hcase with ⟨hg6, rfl⟩ | ⟨hg6, rfl⟩
    · obtain ⟨v, v1, v2⟩ := results_run (fn := Tryz.f113) (rs := [.sl id gen 0 (len + 1)]) s' (by
        show resultsE _ _ [.tmp 6] = _
        simp [resultsE, resultE, hg6])
      have v2' : VRel F' m' (.sl id gen 0 (len + 1)) v := v2
      have hr2 : ((h.set id (.row 20 gen (els.take len) ⟨false, 58⟩)).set id (.row 20 gen ((els.take len).take i ++ x :: (els.take len).drop i) ⟨false, 58⟩))[id]? = some (.row 20 gen ((els.take len).take i ++ x :: (els.take len).drop i) ⟨false, 58⟩) := List.getElem?_set_self (by simpa using hid)
      obtain ⟨g1, C1, e1, cur1, x1⟩ := s'.rel.row _ _ _ _ _ hr2
      have et : e1 = 58 := x1.ty
      subst et
      obtain ⟨r3, e3⟩ := s'.rel.regen hr2 x1 (g' := g1) (C' := C1) (els' := (els.take len).take i ++ x :: (els.take len).drop i) (cur' := cur1) (w' := w') (e' := 58) (fun b o hb _ => hb) (.inl rfl) x1.own x1.heap x1.size x1.len x1.most x1.all x1.cells
      rw [List.set_set, List.set_set] at r3
      refine ⟨s'.defers, v, v1, v, rfl, hnx v w' F' _ (he.trans e3) ?_ r3 hsm⟩
      simp only [VRel] at v2' ⊢
      obtain ⟨ga, Ca, ka, ad, z1, z2, z3, z4, z5, z6⟩ := v2'
      rw [x1.mp] at z1
      simp only [Option.some.injEq, Prod.mk.injEq] at z1
      obtain ⟨rfl, rfl, rfl⟩ := z1
      exact ⟨_, _, _, ad, Mp.add_same, z2, z3, z4, z5, z6⟩
    · obtain ⟨v, v1, v2⟩ := results_run (fn := Tryz.f113) (rs := [.sl (h.set id (.row 20 gen (els.take len) ⟨false, 58⟩)).length 0 0 (len + 1)]) s' (by
        show resultsE _ _ [.tmp 6] = _
        simp [resultsE, resultE, hg6])
      have v2' : VRel F' m' (.sl (h.set id (.row 20 gen (els.take len) ⟨false, 58⟩)).length 0 0 (len + 1)) v := v2
      rw [hl1] at v2'
      have hrow := r.rowLt hr
      simp only [AM.rowLt] at hrow
      obtain ⟨q, q1, q2, r3⟩ := s'.rel.adopt (id := id) (n0 := h.length) (j := h.length) (g2 := 0) (by rw [List.getElem?_append_left (by rw [hl1]; exact hid)]; exact hr1) (by rw [← hl1, end0]; rfl) hid (Nat.le_refl _) (fun j y hj hy => by
        rw [List.getElem?_append_left (by rw [hl1]; exact hj)] at hy
        have := r1.rowLt hy
        rw [hl1] at this
        exact this) (newlt h.length hrow)
      have htake : ((h.set id (.row 20 gen (els.take len) ⟨false, 58⟩)) ++ [Row.row 20 0 ((els.take len).take i ++ x :: (els.take len).drop i) ⟨false, 58⟩]).take h.length = h.set id (.row 20 gen (els.take len) ⟨false, 58⟩) := by
        rw [← hl1, List.take_left]
      rw [htake, List.set_set] at r3
      refine ⟨s'.defers, v, v1, v, rfl, hnx v w' F' _ ⟨he.fz, fun j gn z hz => ?_, fun j z hz => ?_⟩ ?_ r3 hsm⟩
      · have hj := r.fresh j gn (by rw [hz]; simp)
        have hz' := he.row _ _ _ hz
        show (if j < h.length then _ else _) = _
        rw [if_pos hj, if_neg (fun hh => by rw [hh.1, hh.2, q2] at hz'; cases hz')]
        exact hz'
      · have hj := r.freshM j (by rw [hz]; simp)
        show (if j < h.length then _ else _) = _
        rw [if_pos hj]
        exact he.map _ _ hz
      · simp only [VRel] at v2' ⊢
        obtain ⟨ga, Ca, ka, ad, z1, z2⟩ := v2'
        refine ⟨ga, Ca, ka, ad, ?_, z2⟩
        simp [hid, ← q1, z1]
  · exact (call_ok e0_ok 300).2.1 _ _ _ _ _ _ hc hq
  · cases hq
  · exact (call_ok e0_ok 300).2.2 _ _ _ _ _ _ hc
  · refine Law.set (b := false) hr fun _ n hn => ?_
    simp only [rowLt] at hn ⊢
    have h1 := idltL_take (k := len) hn
    refine idltL_append (idltL_take h1) ?_
    simp only [idltL]
    exact ⟨idfree_lt n x hx, idltL_drop h1⟩

end Go.Proofs.YtobdjegooonklaaGreat.Early
