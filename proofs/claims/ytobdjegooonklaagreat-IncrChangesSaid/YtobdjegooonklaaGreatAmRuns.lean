/- Code run piece by piece, where a row's capacity is known. Conditions: none. -/
import Derived.Test.YtobdjegooonklaaGreatAmLaw
import Derived.Lib.Overlaps
import Derived.Test.YtobdjegooonklaaGreatAmOv
set_option linter.unusedVariables false
set_option linter.unusedSimpArgs false
namespace Go.AM
open Go

variable {F F' : Fz} {m m' : Mp} {fr : FR} {a : Act} {h : Heap} {w : World} {P : Program}

/-- What lasts. -/
def Lasts (pre : Mp → Prop) : Prop := ∀ F m F' m', Ext F m F' m' → pre m → pre m'

/-- As Runs, under what is known of the mapping. -/
def RunsP (P : Program) (pre : Mp → Prop) (nt : Nat) (c : Code) (st : St) (ex : Ex) (st' : St) : Prop := ∀ F m a w, pre m → SRel F m nt st a w → ∀ Q : Exit → Act → World → Prop,
  (∀ a' w' F' m', Ext F m F' m' → SRel F' m' nt st' a' w' → Same w w' → Q (exOf ex) a' w') → c.wp P Q a w

section
variable {pre : Mp → Prop} {nt : Nat} {c x y : Code} {st st1 st2 : St} {ex : Ex}

theorem runsP_exec {E : Env} (H : E.OK) {n nl : Nat} {f : FuncId} {n0 : Nat} (hc : codeOK E f c = true) (he : exec E (call E n) nl f nt n0 c st = some (ex, st1)) : RunsP E.P pre nt c st ex st1 :=
  fun F m a w _ s Q hq => (exec_sound H.mixed H.zeros (call_ok H n).1 (call_ok H n).2.1 c hc).1 st ex st1 he F m a w s Q hq

theorem runsP_seq (hl : Lasts pre) (h1 : RunsP P pre nt x st .normal st1) (h2 : RunsP P pre nt y st1 ex st2) : RunsP P pre nt (.seq x y) st ex st2 := by
  intro F m a w hp s Q hq
  refine wp_seq (h1 F m a w hp s _ fun a' w' F' m' he s' hsm => ?_)
  show Exit.then _ Q .normal a' w'
  simp only [Exit.then]
  exact h2 F' m' a' w' (hl _ _ _ _ he hp) s' Q fun a2 w2 F2 m2 he2 s2 hsm2 => hq a2 w2 F2 m2 (he.trans he2) s2 (hsm.trans hsm2)

theorem runsP_stop (h1 : RunsP P pre nt x st .ret st1) : RunsP P pre nt (.seq x y) st .ret st1 := by
  intro F m a w hp s Q hq
  refine wp_seq (h1 F m a w hp s _ fun a' w' F' m' he s' hsm => ?_)
  show Exit.then _ Q .ret a' w'
  simp only [Exit.then]
  exact hq a' w' F' m' he s' hsm

theorem runsP_true {b : Operand} (hb : ev st.fr b = some (.v (.bool true))) (h : RunsP P pre nt x st ex st1) : RunsP P pre nt (.cond b x y) st ex st1 := by
  intro F m a w hp s Q hq
  have hv := ev_rel s.fr hb
  simp only [VRel] at hv
  exact wp_cond_true hv.2 (h F m a w hp s Q hq)

theorem runsP_false {b : Operand} (hb : ev st.fr b = some (.v (.bool false))) (h : RunsP P pre nt y st ex st1) : RunsP P pre nt (.cond b x y) st ex st1 := by
  intro F m a w hp s Q hq
  have hv := ev_rel s.fr hb
  simp only [VRel] at hv
  exact wp_cond_false hv.2 (h F m a w hp s Q hq)

theorem runsP_skip : RunsP P pre nt .skip st .normal st := fun F m a w _ s Q hq => wp_skip (hq a w F m (Ext.refl _ _) s (Same.refl _))

/-- Of a frame some temporaries are told no more. -/
theorem runsP_keep (l : List Nat) (h : RunsP P pre nt c (maskS l st) ex st1) : RunsP P pre nt c st ex st1 :=
  fun F m a w hp s Q hq => h F m a w hp (s.mask l) Q hq

theorem runsP_keep_out (l : List Nat) (h : RunsP P pre nt c st ex st1) : RunsP P pre nt c st ex (maskS l st1) :=
  fun F m a w hp s Q hq => h F m a w hp s Q fun a' w' F' m' he s' hsm => hq a' w' F' m' he (s'.mask l) hsm

/-- Operations from a place on. -/
def OpsP (P : Program) (pre : Mp → Prop) (nt : Nat) (ops : Array Oper) (i : Nat) (os : List Oper) (st st' : St) : Prop := (∀ j, os[j]? = ops[i + j]?) → ∀ F m a w, pre m → SRel F m nt st a w → ∀ Q : Exit → Act → World → Prop,
  (∀ a' w' F' m', Ext F m F' m' → SRel F' m' nt st' a' w' → Same w w' → Q .normal a' w') → wpOps P ops Q (List.range' i os.length) a w

theorem opsP_nil {ops : Array Oper} {i : Nat} : OpsP P pre nt ops i [] st st := fun _ F m a w _ s Q hq => hq a w F m (Ext.refl _ _) s (Same.refl _)

theorem opsP_am {E : Env} (H : E.OK) {n : Nat} {f : FuncId} {n0 : Nat} {ops : Array Oper} {i : Nat} {o : Oper} {os : List Oper} {cl : Cl} (hl : Lasts pre) (hs : stepO E (call E n) f nt n0 ops o st = some (st1, cl)) (h : OpsP E.P pre nt ops (i + 1) os st1 st2) : OpsP E.P pre nt ops i (o :: os) st st2 := by
  intro ho F m a w hp s Q hq
  have hi : ops[i]? = some o := by have := ho 0; simpa using this.symm
  rw [List.length_cons, List.range'_succ, wpOps_cons]
  refine stepO_sound H.zeros (call_ok H n).1 hi hs s fun a' w' F' m' he s' hsm => ?_
  refine h (fun j => ?_) F' m' a' w' (hl _ _ _ _ he hp) s' Q fun a2 w2 F2 m2 he2 s2 hsm2 => hq a2 w2 F2 m2 (he.trans he2) s2 (hsm.trans hsm2)
  have := ho (j + 1)
  rw [List.getElem?_cons_succ] at this
  rw [this]
  congr 1
  omega

/-- An operation that is known by itself. -/
theorem opsP_by {ops : Array Oper} {i : Nat} {o : Oper} {os : List Oper} {y : AV} {h' : Heap} {fr' : FR} {ds ls : List Nat} (hl : Lasts pre) (hg : o.guard = none) (hr : ∀ F m a w, pre m → SRel F m nt st a w → Good P F m w y h' (execOp a.eval o)) (hp : putF nt st.fr o.dst y = some fr')
    (h : OpsP P pre nt ops (i + 1) os ⟨fr', h', ds, ls⟩ st2) : OpsP P pre nt ops i (o :: os) st st2 := by
  intro ho F m a w hpm s Q hq
  have hi : ops[i]? = some o := by have := ho 0; simpa using this.symm
  rw [List.length_cons, List.range'_succ, wpOps_cons]
  unfold wpOp
  rw [hi]
  have hw : Region.wanted o (yielded ops a.tmps) = true := by simp [Region.wanted, hg]
  dsimp only
  rw [if_pos hw]
  refine .inl (good_wp (hr F m a w hpm s) fun v w' F' m' he hv hrel hsm => ?_)
  have s' : SRel F' m' nt ⟨fr', h', ds, ls⟩ (a.put o.dst v) w' := s.next he hp hv hrel
  refine h (fun j => ?_) F' m' _ w' (hl _ _ _ _ he hpm) s' Q fun a2 w2 F2 m2 he2 s2 hsm2 => hq a2 w2 F2 m2 (he.trans he2) s2 (hsm.trans hsm2)
  have := ho (j + 1)
  rw [List.getElem?_cons_succ] at this
  rw [this]
  congr 1
  omega

theorem runsP_region {id : Nat} {ops : Array Oper} (h : OpsP P pre nt ops 0 ops.toList st st1) : RunsP P pre nt (.region id ops false) st .normal st1 := by
  intro F m a w hp s Q hq
  refine wp_region ?_
  have := h (fun j => by simp) F m a w hp s Q hq
  rw [List.range_eq_range']
  simpa using this
end

/-- A row's capacity is known. -/
def CapIs (id gen g C k : Nat) (m : Mp) : Prop := m.row id gen = some (g, C, k)
theorem capIs_lasts (id gen g C k : Nat) : Lasts (CapIs id gen g C k) := fun _ _ _ _ he hp => he.row _ _ _ hp

/-! ### What is known by itself -/
theorem cap_good {st : St} {nt : Nat} (s : SRel F m nt st a w) {o : Oper} {t e : TypeId} {x : Operand} {id gen len g C k : Nat} (hop : o.op = .call { callee := .builtin .cap, args := #[x], argTypes := #[t] }) (hu : P.underlying t = some (.slice e)) (hx : ev st.fr x = some (.sl id gen 0 len)) (hm : m.row id gen = some (g, C, k)) :
    Good P F m w (vInt C) st.h (execOp a.eval o) := by
  have hv := ev_rel s.fr hx
  simp only [VRel] at hv
  obtain ⟨g1, C1, k1, ad, h1, h2, h3, h4, h5, h6⟩ := hv
  rw [hm] at h1
  simp only [Option.some.injEq, Prod.mk.injEq] at h1
  obtain ⟨rfl, rfl, rfl⟩ := h1
  have e1 : execOp a.eval o = builtin .cap #[t] o.type (#[x].map fun | .const _ => true | _ => false) #[a.eval x] := by
    unfold execOp
    rw [hop]
    have e4 : (#[x] : Array Operand).map a.eval = #[a.eval x] := by simp
    simp only [resolve, e4]
    rfl
  rw [e1]
  show Good P F m w (vInt C) st.h (do pure (.value (← Builtin.cap_ #[t] o.type #[a.eval x])))
  rw [h6]
  exact (GoodV.val s.rel (v := goInt C) (by simp [-bind_pure_comp, Builtin.cap_, run_underlying hu]) (VRel_vInt _)).good

/-- A slice's first elements, up to its capacity. -/
theorem slice_good {st : St} {nt : Nat} (s : SRel F m nt st a w) {o : Oper} {t e : TypeId} {x hi : Operand} {id gen len n g C k : Nat} (hop : o.op = .slice t x none (some hi) none) (hu : P.underlying t = some (.slice e)) (hs : szOf P e = some k) (hx : ev st.fr x = some (.sl id gen 0 len)) (hh : ev st.fr hi = some (.v (.int .i64 n)))
    (hm : m.row id gen = some (g, C, k)) (hn : n ≤ C) : Good P F m w (.sl id gen 0 n) st.h (execOp a.eval o) := by
  have hv := ev_rel s.fr hx
  have hv2 := ev_rel s.fr hh
  simp only [VRel] at hv hv2
  obtain ⟨_, hv2⟩ := hv2
  obtain ⟨g1, C1, k1, ad, h1, h2, h3, h4, h5, h6⟩ := hv
  rw [hm] at h1
  simp only [Option.some.injEq, Prod.mk.injEq] at h1
  obtain ⟨rfl, rfl, rfl⟩ := h1
  obtain ⟨b1, _⟩ := bounds_run (P := P) (w := w) (F := F) (m := m) (b := true) (len := len) (cap := C) (M := C) (lo := none) (hi := some (.v (.int .i64 n))) (mx := none) (lov := none) (hiv := some (.int .i64 n)) (mxv := none) (p := 0) (q := n) (mm := C) trivial (by simp [ORel, VRel, free]) trivial (Nat.le_refl _) rfl (by
    have : (n : Int) ≤ C := by omega
    simp [bound, this]) (by simp [bound]) rfl
  have hr := slice_run (P := P) (w := w) hu hs (ad := some ad) b1
  have e1 : execOp a.eval o = (do pure (.value (← Instr.sliceAt t (a.eval x) none (some (a.eval hi)) none))) := by
    unfold execOp
    rw [hop]
    rfl
  rw [e1, h6, hv2, Nat.sub_zero]
  refine Good.val s.rel hr ?_
  simp only [VRel, Option.isNone_none, if_true, Nat.sub_zero]
  refine ⟨g, C, k, if C = 0 then ad else ad.add (0 * k), hm, by omega, ?_, ?_, fun h0 => ?_, by split <;> rfl⟩
  · split
    · exact h3
    · rw [add_any h4]; exact h3
  · split
    · exact h4
    · exact spot_add h4 _
  · rw [if_neg (by omega), add_any h4, h5 h0]
    simp

/-- Appended behind a slice that has no room: a new row, the old one stands. -/
theorem append_fresh {Z : List (TypeId × AV)} (hZ : ∀ t z, assoc Z t = some z → ∃ i v, P.info? t = some i ∧ i.zero = some v ∧ toV z = some v) (r : Rel F m h w) {st xt e ty : TypeId} {i : TypeInfo} {z : Value} {id gen len C g : Nat} {x : AV} {xs els : List AV} {ex : Tag} {sv xv : Value}
    (hs : VRel F m (.sl id gen 0 len) sv) (hr : h[id]? = some (.row i.size gen els ex)) (hm : m.row id gen = some (g, C, i.size)) (hle : len ≤ els.length) (hroom : C < len + xs.length) (hu : P.underlying st = some (.slice e)) (hxt : ∃ d, P.underlying xt = some d) (hi : P.info? e = some i) (hz : i.zero = some z) (ez : z.cells.size = i.size) (hk0 : 1 ≤ i.size) (hby : 1 ≤ i.bytes)
    (hbd : (len + xs.length) * i.bytes ≤ 140737488355328) (hxs : srcEls P Z h xt e i.size x = some xs) (hx : VRel F m x xv) : GoodV P F m w (.sl h.length 0 0 (len + xs.length)) (newRow h i.size (els.take len ++ xs) ⟨false, e⟩) (Builtin.append_ #[st, xt] ty #[sv, xv]) := by
  obtain ⟨news, n1, n2, n3⟩ := srcEls_rel hZ r hi hxs hx
  have hnl : news.length = xs.length * i.size := len_of_CL n1 n2
  have app : AppIn P w st xt e i z xv xs.length news := by
    refine ⟨hu, hi, hz, ez, hk0, hnl, ?_⟩
    rcases n3 with ⟨kd, q, z', q1, q2, q3, q4, q5, q6, q7, q8⟩ | ⟨q1, q2, q3⟩
    · rw [hz] at q6
      injection q6 with q6
      subst q6
      exact .inl ⟨kd, q, q1, q2, q3, q4, q5, by rw [q5]; exact q8⟩
    · obtain ⟨d, hd⟩ := hxt
      exact .inr ⟨⟨d, hd, fun kd e0 => q1 kd (by rw [hd, e0])⟩, q2, fun w' hw => by have := q3 xs.length (Nat.le_refl _) w' hw; rwa [List.take_of_length_le (by omega)] at this⟩
  obtain ⟨g1, C1, e', cur, ad, xr, c1, c2, c3, c4, rfl⟩ := sl_row r hs hr
  have hgc : g1 = g ∧ C1 = C := by
    have := xr.mp
    rw [hm] at this
    simp only [Option.some.injEq, Prod.mk.injEq] at this
    exact ⟨this.1.symm, this.2.1.symm⟩
  obtain ⟨rfl, rfl⟩ := hgc
  have holds : CL F m (els.take len) (cur.toList.take (len * i.size)) := by
    have := CL_take xr.cells xr.all len
    rw [List.take_take, Nat.min_eq_left (Nat.mul_le_mul_right _ hle)] at this
    exact this
  have htk := allK_take len xr.all
  have htl : (els.take len).length = len := by simp; omega
  have hol' : (cur.toList.take (len * i.size)).length = len * i.size := by rw [len_of_CL holds htk, htl]
  have hrun := append_grow (ty := ty) app (base := some ad) (sLen := len) (sCap := C1 - 0) (olds := cur.toList.take (len * i.size)) (by omega) hby hbd (fun w' hw => run_firstCells_some w' i.size len ad len (C1 - 0) _ hol' (fun j v hj => by
    have hjl := lt_of_getElem? hj
    have hlen0 : 0 < C1 := by
      rw [hol'] at hjl
      have : 0 < len := Nat.pos_of_mul_pos_right (Nat.lt_of_le_of_lt (Nat.zero_le _) hjl)
      omega
    rw [add_any c3, c2, c4 hlen0]
    simp only [List.getElem?_take] at hj
    split at hj
    · simp only [World.cell?, hw, xr.heap]
      simpa using hj
    · cases hj))
  have hge := grownCap_ge w (len + xs.length) (C1 - 0) e
  have hmx : len + xs.length ≤ maxLen := by
    have : len + xs.length ≤ 140737488355328 := Nat.le_trans (Nat.le_mul_of_pos_right _ hby) hbd
    simp only [maxLen]; omega
  have hcm := grownCap_le_maxLen w (len + xs.length) (C1 - 0) e hmx
  generalize grownCap w (len + xs.length) (C1 - 0) e = NC at hrun hge hcm
  obtain ⟨q1, q2⟩ := grown_cells (z := z.cells) (cap := NC) (need := len + xs.length) ez hol' hnl hge rfl
  obtain ⟨r', e'⟩ := (r.of_heap (w' := w.drew) rfl).newRow (k := i.size) (C := NC) (els := els.take len ++ xs) (ex := ⟨false, e⟩) (cells := _) hk0 q1 (by simp [Nat.min_eq_left hle]; exact hge) (by simp) hcm (by rw [allK_append, htk, n2]; rfl)
    (by rw [List.length_append, htl, q2]; exact CL_append holds n1)
  refine ⟨_, _, _, _, hrun, e', ?_, r', same_grown _ _⟩
  simp only [VRel]
  exact ⟨w.heap.size, NC, i.size, ⟨w.heap.size, 0, none⟩, Mp.add_same, by omega, rfl, rfl, by simp, by simp⟩

/-- Two rows do not overlap. -/
def ovApart : Ov := fun args h => match args with
  | [.sl id gen _ len, .sl id2 gen2 _ len2] => match h[id]?, h[id2]? with
    | some (.row _ g _ _), some (.row _ g2 _ _) => bif Nat.beq g gen && (Nat.beq g2 gen2 && (!(Nat.beq id id2) && (Nat.ble 1 len && Nat.ble 1 len2))) then some (.v (.bool false), h, ⟨[], [], true⟩) else none
    | _, _ => none
  | _ => none

theorem ovApart_ok {f : FuncId} {tS tR e : TypeId} {size : Nat} (hu : P.underlying tS = some (.slice e)) (hz : ∀ w, (Go.sizeOf e).run P w = .ok size w) (hc : ∀ v u w, (callFunc f #[v, u]).run P w = (do pure (.value (← Extern.SlicesOverlaps.overlaps #[tS, tS] #[tR] #[v, u])) : Sem Next).run P w) : OvOK P f ovApart := by
  have key : ∀ {args : List AV} {h h' : Heap} {y : AV} {e : Eff}, ovApart args h = some (y, h', e) → ∃ id gen off len id2 gen2 off2 len2 k els ex k2 els2 ex2, args = [.sl id gen off len, .sl id2 gen2 off2 len2] ∧ h[id]? = some (.row k gen els ex) ∧ h[id2]? = some (.row k2 gen2 els2 ex2) ∧ id ≠ id2 ∧ 1 ≤ len ∧ 1 ≤ len2 ∧ y = .v (.bool false) ∧ h' = h ∧ e = ⟨[], [], true⟩ := by
    intro args h h' y e ho
    unfold ovApart at ho
    split at ho
    · rename_i id gen off len id2 gen2 off2 len2
      split at ho
      · rename_i k g els ex k2 g2 els2 ex2 hr hr2
        cases hb : (Nat.beq g gen && (Nat.beq g2 gen2 && (!(Nat.beq id id2) && (Nat.ble 1 len && Nat.ble 1 len2)))) with
        | false => simp [hb] at ho
        | true =>
          simp only [hb, cond_true, Option.some.injEq, Prod.mk.injEq] at ho
          obtain ⟨rfl, rfl, rfl⟩ := ho
          simp only [Bool.and_eq_true, Bool.not_eq_true'] at hb
          obtain ⟨b1, b2, b3, b4, b5⟩ := hb
          have e1 := Nat.eq_of_beq_eq_true b1
          have e2 := Nat.eq_of_beq_eq_true b2
          subst e1; subst e2
          exact ⟨id, g, off, len, id2, g2, off2, len2, k, els, ex, k2, els2, ex2, rfl, hr, hr2, fun e0 => by subst e0; simp at b3, Nat.le_of_ble_eq_true b4, Nat.le_of_ble_eq_true b5, rfl, rfl, rfl⟩
      · cases ho
    · cases ho
  refine ⟨fun args h y h' e0 ho F m w vs r hv next hn => ?_, fun args h y h' e0 ho hq => ?_, fun args h y h' e0 ho => ?_⟩ <;> obtain ⟨id, gen, off, len, id2, gen2, off2, len2, k, els, ex, k2, els2, ex2, rfl, hr, hr2, hne, hl, hl2, rfl, rfl, rfl⟩ := key ho
  · simp only [VL] at hv
    obtain ⟨v, _, h1, ⟨u, _, h2, rfl, rfl⟩, rfl⟩ := hv
    obtain ⟨g1, C, t1, cur, ad, xr, c1, c2, c3, c4, rfl⟩ := sl_row r h1 hr
    obtain ⟨g2, C2, t2, cur2, ad2, xr2, d1, d2, d3, d4, rfl⟩ := sl_row r h2 hr2
    have hbl : ad.block ≠ ad2.block := by
      rw [c2, d2]
      intro e0
      subst e0
      exact hne (r.inj _ _ _ _ _ _ _ _ _ _ _ _ _ _ _ hr hr2 xr.mp xr2.mp)
    have hsz : cur2.size ≠ 0 := by
      rw [xr2.size]
      have := xr2.pos
      have h0 : 1 ≤ C2 := by omega
      have := Nat.mul_le_mul h0 this
      omega
    have hrun := Go.Lib.run_overlaps_apart (P := P) w tS tR e hu size hz ad ad2 len (C - off) len2 (C2 - off2) hbl t1 t2 cur.size cur2.size (by rw [c2]; simp [World.shape?, xr.heap]) (by rw [d2]; simp [World.shape?, xr2.heap]) hsz (by unfold World.frozen?; rw [c2, xr.heap]; simp) (by simp only [World.frozen?]; rw [c2, xr.heap]; simp)
    have e1 : (callFunc f [Value.slice (some ad) len (C - off), Value.slice (some ad2) len2 (C2 - off2)].toArray).run P w = .ok (.value (.bool false)) w := by
      show (callFunc f #[_, _]).run P w = _
      rw [hc]
      simp [-bind_pure_comp, hrun]
    rw [e1]
    exact hn _ w F m (Ext.refl _ _) (by simp [VRel, free]) r (Same.refl _)
  · exact ⟨rfl, rfl, rfl⟩
  · exact Law.refl _

/-- A row that another one's block has become: the other one is told no more. -/
theorem Rel.adopt (r : Rel F m h w) {id gen k n0 j g2 : Nat} {els els' : List AV} {ex ex' : Tag} (hid : h[id]? = some (.row k gen els ex)) (hj : h[j]? = some (.row k g2 els' ex')) (hn : id < n0) (hnj : n0 ≤ j) (hlt : ∀ i x, i < n0 → h[i]? = some x → AM.rowLt n0 x) (hel : idltL n0 els') :
    ∃ q, m.row j g2 = some q ∧ m.row id (gen + 1) = none ∧
      Rel F ⟨fun i gn => if i < n0 then (if i = id ∧ gn = gen + 1 then some q else m.row i gn) else none, fun i => if i < n0 then m.map i else none⟩ ((h.take n0).set id (.row k (gen + 1) els' ⟨false, ex'.ty⟩)) w := by
  obtain ⟨g, C, e, cur, x⟩ := r.row _ _ _ _ _ hid
  obtain ⟨g', C', e', cur', x'⟩ := r.row _ _ _ _ _ hj
  have hjl := lt_of_getElem? hj
  have hnew : m.row id (gen + 1) = none := by
    cases hq : m.row id (gen + 1) with
    | none => rfl
    | some q => have := x.gens (gen + 1) (by rw [hq]; simp); omega
  refine ⟨(g', C', k), x'.mp, hnew, ?_⟩
  let m' : Mp := ⟨fun i gn => if i < n0 then (if i = id ∧ gn = gen + 1 then some (g', C', k) else m.row i gn) else none, fun i => if i < n0 then m.map i else none⟩
  show Rel F m' _ w
  have mv : Move n0 F m F m' := by
    refine ⟨fun _ _ _ _ hb => hb, fun i gn y hi hy => ?_, fun i y hi hy => by simp [m', hi, hy]⟩
    show (if i < n0 then _ else _) = _
    rw [if_pos hi]
    by_cases e0 : i = id ∧ gn = gen + 1
    · obtain ⟨rfl, rfl⟩ := e0; rw [hnew] at hy; cases hy
    · rw [if_neg e0]; exact hy
  have hne : ∀ {i gn : Nat}, i < n0 → ¬(i = id ∧ gn = gen + 1) → m'.row i gn = m.row i gn := fun {i gn} hi e0 => by
    show (if i < n0 then _ else _) = _
    rw [if_pos hi, if_neg e0]
  have hself : m'.row id (gen + 1) = some (g', C', k) := by
    show (if id < n0 then _ else _) = _
    rw [if_pos hn, if_pos ⟨rfl, rfl⟩]
  have dn : ∀ {i : Nat} {y : Row}, ((h.take n0).set id (.row k (gen + 1) els' ⟨false, ex'.ty⟩))[i]? = some y → (i = id ∧ y = .row k (gen + 1) els' ⟨false, ex'.ty⟩) ∨ (i ≠ id ∧ i < n0 ∧ h[i]? = some y) := fun {i y} hy => by
    rcases getElem?_set_row hy with h1 | ⟨h1, h2⟩
    · exact .inl h1
    · refine .inr ⟨h1, ?_⟩
      rw [List.getElem?_take] at h2
      split at h2
      · rename_i hi; exact ⟨hi, h2⟩
      · cases h2
  have other : ∀ {i k1 gen1 : Nat} {els1 : List AV} {ex1 : Tag} {C1 q : Nat}, i < n0 → h[i]? = some (.row k1 gen1 els1 ex1) → m.row i gen1 = some (g', C1, q) → False := fun {i k1 gen1 els1 ex1 C1 q} hi h1 h2 => by
    have := r.inj i j _ _ _ _ _ _ _ _ _ _ _ _ _ h1 hj h2 x'.mp
    omega
  refine ⟨r.fz, fun i k1 gen1 els1 ex1 hi => ?_, fun i es c hi => ?_, fun i gn hgn => ?_, fun i hgn => ?_, ?_, ?_⟩
  · rcases dn hi with ⟨rfl, h1⟩ | ⟨hne1, hlt1, h1⟩
    · injection h1 with a1 a2 a3 a4
      subst a1; subst a2; subst a3; subst a4
      refine ⟨g', C', e', cur', ⟨hself, x'.pos, x'.heap, x'.own, x'.size, x'.len, (fun h => by cases h), x'.ty, x'.most, x'.all, CL.move mv _ _ hel x'.cells, fun gn hgn => ?_⟩⟩
      by_cases e0 : gn = gen + 1
      · omega
      · rw [hne hn (fun hh => e0 hh.2)] at hgn
        have := x.gens gn hgn
        omega
    · obtain ⟨g1, C1, e1, cur1, y⟩ := r.row _ _ _ _ _ h1
      have hl := hlt i _ hlt1 h1
      simp only [AM.rowLt] at hl
      refine ⟨g1, C1, e1, cur1, ⟨by rw [hne hlt1 (fun hh => hne1 hh.1)]; exact y.mp, y.pos, y.heap, y.own, y.size, y.len, y.exact, y.ty, y.most, y.all, CL.move mv _ _ hl y.cells, fun gn hgn => y.gens gn (by rw [hne hlt1 (fun hh => hne1 hh.1)] at hgn; exact hgn)⟩⟩
  · rcases dn hi with ⟨rfl, h1⟩ | ⟨hne1, hlt1, h1⟩
    · cases h1
    · obtain ⟨g1, ents, y⟩ := r.map _ _ _ h1
      exact ⟨g1, ents, ⟨mv.map _ _ hlt1 y.mp, y.heap, y.own, EntR_move mv (hlt i _ hlt1 h1) y.ents⟩⟩
  · have hi : i < n0 := by
      rcases Nat.lt_or_ge i n0 with hi | hi
      · exact hi
      · exact (hgn (by show (if i < n0 then _ else _) = _; rw [if_neg (by omega)])).elim
    simp only [List.length_set, List.length_take]
    omega
  · have hi : i < n0 := by
      rcases Nat.lt_or_ge i n0 with hi | hi
      · exact hi
      · exact (hgn (by show (if i < n0 then _ else _) = _; rw [if_neg (by omega)])).elim
    simp only [List.length_set, List.length_take]
    omega
  · intro i1 i2 k1 gen1 els1 ex1 k2 gen2 els2 ex2 gg C1 C2 q1 q2 h1 h2 h3 h4
    rcases dn h1 with ⟨rfl, e1⟩ | ⟨n1, l1, e1⟩ <;> rcases dn h2 with ⟨rfl, e2⟩ | ⟨n2, l2, e2⟩
    · rfl
    · injection e1 with a1 a2 a3 a4
      subst a2
      rw [hself] at h3
      simp only [Option.some.injEq, Prod.mk.injEq] at h3
      obtain ⟨rfl, _, _⟩ := h3
      rw [hne l2 (fun hh => n2 hh.1)] at h4
      exact (other l2 e2 h4).elim
    · injection e2 with a1 a2 a3 a4
      subst a2
      rw [hself] at h4
      simp only [Option.some.injEq, Prod.mk.injEq] at h4
      obtain ⟨rfl, _, _⟩ := h4
      rw [hne l1 (fun hh => n1 hh.1)] at h3
      exact (other l1 e1 h3).elim
    · rw [hne l1 (fun hh => n1 hh.1)] at h3
      rw [hne l2 (fun hh => n2 hh.1)] at h4
      exact r.inj _ _ _ _ _ _ _ _ _ _ _ _ _ _ _ e1 e2 h3 h4
  · intro i1 i2 es1 c1 es2 c2 gg h1 h2 h3 h4
    rcases dn h1 with ⟨rfl, e1⟩ | ⟨n1, l1, e1⟩
    · cases e1
    · rcases dn h2 with ⟨rfl, e2⟩ | ⟨n2, l2, e2⟩
      · cases e2
      · have t1 : m'.map i1 = m.map i1 := by show (if i1 < n0 then _ else _) = _; rw [if_pos l1]
        have t2 : m'.map i2 = m.map i2 := by show (if i2 < n0 then _ else _) = _; rw [if_pos l2]
        rw [t1] at h3
        rw [t2] at h4
        exact r.injM _ _ _ _ _ _ _ e1 e2 h3 h4

end Go.AM
