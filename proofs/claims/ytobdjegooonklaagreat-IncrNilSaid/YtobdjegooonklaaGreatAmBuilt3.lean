/- copy, len, cap, clear and maps of the abstract machine are those of the real one. Conditions: none. -/
import Derived.Test.YtobdjegooonklaaGreatAmBuilt2
set_option linter.unusedVariables false
set_option linter.unusedSimpArgs false
namespace Go.AM
open Go

variable {F : Fz} {m : Mp} {fr : FR} {a : Act} {h : Heap} {w : World} {P : Program}

theorem GoodV.val {y : AV} {s : Sem Value} {v : Value} (r : Rel F m h w) (hr : s.run P w = .ok v w) (hv : VRel F m y v) : GoodV P F m w y h s :=
  ⟨v, w, F, m, hr, Ext.refl _ _, hv, r, Same.refl _⟩

theorem two_ts {α : Type} {ts : Array TypeId} {st xt : TypeId} (h0 : ts[0]? = some st) (h1 : ts[1]? = some xt) : True := trivial

/-! ### copy -/
theorem run_copy {dt xt e : TypeId} {k n dLen dCap sLen : Nat} {base : Option Addr} {xv : Value} {news : List Value} {w' : World} {ts : Array TypeId} {ty : TypeId} (h0 : ts[0]? = some dt) (h1 : ts[1]? = some xt)
    (hu : P.underlying dt = some (.slice e)) (hk : szOf P e = some k) (hl : (Builtin.lenOf xv).run P w = .ok sLen w) (hn : n = min sLen dLen) (hf : (Builtin.firstCells k n xv).run P w = .ok news.toArray w)
    (hst : ∀ ad, base = some ad → (storeCells ad news).run P w = .ok () w') (hno : base = none → w' = w) : (Builtin.copy_ ts ty #[.slice base dLen dCap, xv]).run P w = .ok (goInt n) w' := by
  have hn' : Nat.min sLen dLen = n := hn.symm
  unfold Builtin.copy_
  cases base with
  | none =>
    have := hno rfl
    subst this
    simp [-bind_pure_comp, h0, h1, run_underlying hu, hl, szOf_run hk, hn', hf]
  | some ad =>
    have hs := hst ad rfl
    simp [-bind_pure_comp, h0, h1, run_underlying hu, hl, szOf_run hk, hn', hf, hs]

theorem addr_eq {ad : Addr} {g o : Nat} (h1 : ad.block = g) (h2 : ad.off = o) (h3 : ad.spot = none) : ad = ⟨g, o, none⟩ := by
  obtain ⟨b0, o0, s0⟩ := ad
  subst h1; subst h2; subst h3; rfl

theorem VRel_vInt (n : Nat) : VRel F m (vInt n) (goInt n) := by simp [vInt, VRel, free, goInt]

set_option maxHeartbeats 1000000 in
theorem copyE_sound (r : Rel F m h w) {ts : Array TypeId} {d x y : AV} {dv xv : Value} {h' : Heap} {sto : Option (Nat × Bool)} {cl : Cl} (ho : copyE P h ts d x = some (y, h', sto, cl)) (hd : VRel F m d dv) (hx : VRel F m x xv) (ty : TypeId) :
    GoodV P F m w y h' (Builtin.copy_ ts ty #[dv, xv]) := by
  unfold copyE at ho
  split at ho
  · rename_i dt xt h0 h1
    split at ho
    · rename_i e hu
      split at ho
      · rename_i k hk
        split at ho
        · rename_i xs len hxs hlen
          obtain ⟨i, hi, rfl⟩ := szOf_info hk
          obtain ⟨news, n1, n2, n3⟩ := srcEls_rel (Z := []) (fun t z hz => by simp [assoc] at hz) r hi hxs hx
          obtain ⟨da, dc, rfl⟩ := sliceLen_rel hlen hd
          have hnl : news.length = xs.length * i.size := len_of_CL n1 n2
          have n3' : (∀ w', (Builtin.lenOf xv).run P w' = .ok xs.length w') ∧ (∀ n', n' ≤ xs.length → ∀ w', w'.heap = w.heap → (Builtin.firstCells i.size n' xv).run P w' = .ok (news.take (n' * i.size)).toArray w') := by
            rcases n3 with ⟨kd, q, z', q1, q2, q3, q4, q5, q6, q7, q8⟩ | ⟨q1, q2, q3⟩
            · unfold srcEls at hxs
              rw [q1] at hxs
              cases x with
              | v y => cases y with
                | int kk nn => cases kk <;> simp [assoc] at hxs
                | _ => simp at hxs
              | _ => simp at hxs
            · exact ⟨q2, q3⟩
          obtain ⟨l1, l2⟩ := n3'
          have hf := l2 (min xs.length len) (Nat.min_le_left _ _) w rfl
          have hcy : CL F m (xs.take (min xs.length len)) (news.take (min xs.length len * i.size)) := CL_take n1 n2 _
          have hky := allK_take (min xs.length len) n2
          have hyl : (xs.take (min xs.length len)).length = min xs.length len := by rw [List.length_take]; exact Nat.min_eq_left (Nat.min_le_left _ _)
          have hnl' : (news.take (min xs.length len * i.size)).length = min xs.length len * i.size := by rw [len_of_CL hcy hky, hyl]
          dsimp only at ho
          cases hz : Nat.beq (min xs.length len) 0 with
          | true =>
            simp only [hz, cond_true, Option.some.injEq, Prod.mk.injEq] at ho
            obtain ⟨rfl, rfl, rfl, rfl⟩ := ho
            have hz0 : min xs.length len = 0 := Nat.eq_of_beq_eq_true hz
            rw [hz0] at hf
            simp only [Nat.zero_mul, List.take_zero] at hf
            exact GoodV.val r (run_copy (w' := w) h0 h1 hu hk (l1 w) hz0.symm hf (fun ad _ => by simp [storeCells]) (fun _ => rfl)) (VRel_vInt 0)
          | false =>
            simp only [hz, cond_false] at ho
            have hpos : 0 < min xs.length len := Nat.pos_of_ne_zero (fun e0 => by rw [e0] at hz; simp at hz)
            have hone : ∀ c ∈ news.take (min xs.length len * i.size), c.oneCell' = true := CL.one _ _ hcy
            split at ho
            · -- an own row
              rename_i id gen off len'
              split at ho
              · rename_i k' g els ex hr
                cases hb : (Nat.beq i.size k' && Nat.beq g gen && Nat.ble (off + len) els.length) with
                | false => simp [hb] at ho
                | true =>
                  simp only [hb, cond_true, Option.some.injEq, Prod.mk.injEq] at ho
                  obtain ⟨rfl, rfl, rfl, rfl⟩ := ho
                  simp only [Bool.and_eq_true] at hb
                  obtain ⟨⟨c1, c2⟩, c3⟩ := hb
                  have ek : i.size = k' := Nat.eq_of_beq_eq_true c1
                  have eg : g = gen := Nat.eq_of_beq_eq_true c2
                  have hol : off + len ≤ els.length := Nat.le_of_ble_eq_true c3
                  subst ek; subst eg
                  obtain ⟨gb, C, e', cur, ad, xr, g1, g2, g3, g4, hv⟩ := sl_row r hd hr
                  injection hv with hv1 hv2 hv3
                  subst hv1
                  have hlC := xr.len
                  have hmin : min xs.length len ≤ len := Nat.min_le_right _ _
                  have hoff := g4 (by omega)
                  have had : ad = ⟨gb, off * i.size, none⟩ := addr_eq g2 hoff g3
                  have hmul : (off + min xs.length len) * i.size ≤ C * i.size := Nat.mul_le_mul_right _ (by omega)
                  have hsize := xr.size
                  rw [Nat.add_mul] at hmul
                  have hst := run_storeCells_at P gb (off * i.size) e' (news.take (min xs.length len * i.size)) 0 cur w xr.heap (by omega) hone
                  refine ⟨_, _, F, m, run_copy (w' := w.setRow gb (splice cur.toList (off * i.size) (news.take (min xs.length len * i.size))).toArray) h0 h1 hu hk (l1 w) rfl hf
                    (fun ad' he => by injection he with he; subst he; rw [had]; simpa [splice] using hst) (fun he => by cases he), Ext.refl _ _, VRel_vInt _, ?_, same_setRow _ _ _⟩
                  obtain ⟨q1, q2⟩ := CL_setFrom (i := off) xr.cells xr.all hcy hky (by omega)
                  refine r.setRow hr xr (splice_size (by omega)) (by rw [setFrom_length]; exact xr.len) (fun h => by rw [setFrom_length]; exact xr.exact h) q2 ?_
                  rw [setFrom_length, List.toList_toArray, take_splice (by rw [hnl', ← Nat.add_mul]; exact Nat.mul_le_mul_right _ (by omega)) (by simp [hsize]; exact Nat.mul_le_mul_right _ xr.len)]
                  exact q1
              · cases ho
            · -- a slice over an array within a row
              rename_i id gen j path o k' off len' mm
              split at ho
              · rename_i kr g els ex hr
                cases hb : (Nat.beq i.size k' && Nat.beq g gen) with
                | false => simp [hb] at ho
                | true =>
                  simp only [hb, cond_true] at ho
                  simp only [Bool.and_eq_true] at hb
                  have ek : i.size = k' := Nat.eq_of_beq_eq_true hb.1
                  have eg : g = gen := Nat.eq_of_beq_eq_true hb.2
                  subst ek; subst eg
                  split at ho
                  · rename_i z hzz
                    split at ho
                    · rename_i l hn
                      cases hb2 : (Nat.beq l.length mm && allK i.size l && Nat.ble (off + len) mm) with
                      | false => simp [hb2] at ho
                      | true =>
                        simp only [hb2, cond_true] at ho
                        simp only [Bool.and_eq_true] at hb2
                        obtain ⟨⟨c1, c2⟩, c3⟩ := hb2
                        have em : l.length = mm := Nat.eq_of_beq_eq_true c1
                        have hol : off + len ≤ mm := Nat.le_of_ble_eq_true c3
                        subst em
                        split at ho
                        · rename_i z' hput
                          simp only [Option.some.injEq, Prod.mk.injEq] at ho
                          obtain ⟨rfl, rfl, rfl, rfl⟩ := ho
                          obtain ⟨gb, C, e', cur, ad, xr, g1, g2, g3, g4, hv⟩ := isl_row r hd hr
                          injection hv with hv1 hv2 hv3
                          subst hv1
                          have hmin : min xs.length len ≤ len := Nat.min_le_right _ _
                          have hoff := g4 (by omega)
                          have had : ad = ⟨gb, j * kr + o + off * i.size, none⟩ := addr_eq g2 hoff g3
                          have hil := lt_of_getElem? hzz
                          have hmulr : j * kr + kr ≤ els.length * kr := by have := Nat.mul_le_mul_right kr (show j + 1 ≤ els.length by omega); rwa [Nat.add_mul, Nat.one_mul] at this
                          have hCr : els.length * kr ≤ C * kr := Nat.mul_le_mul_right _ xr.len
                          obtain ⟨u, u1, u2, u3⟩ := CL_get xr.cells xr.all hzz
                          have hlz : leafs z = kr := allK_get xr.all hzz
                          obtain ⟨v, v1, v2, v3, v4⟩ := nav_rel z path o _ hn u u1 u2
                          obtain ⟨v5, v6⟩ := v1.ofAgg
                          have hla : leafs (.agg l) = l.length * i.size := by simp only [leafs]; exact allK_leafs c2
                          rw [hla, hlz] at v4
                          have hvl : v.cells.toList.length = l.length * i.size := len_of_CL v6 c2
                          obtain ⟨q1, q2⟩ := CL_setFrom (i := off) v6 c2 hcy hky (by omega)
                          have hfit1 : (off + min xs.length len) * i.size ≤ l.length * i.size := Nat.mul_le_mul_right _ (by omega)
                          rw [Nat.add_mul] at hfit1
                          have hsplen : (splice v.cells.toList (off * i.size) (news.take (min xs.length len * i.size))).length = l.length * i.size := by rw [splice_length (by omega), hvl]
                          obtain ⟨v', p1, p2, p3, p4, p5⟩ := put_rel (y := .agg (setFrom l off (xs.take (min xs.length len)))) (z := .agg (splice v.cells.toList (off * i.size) (news.take (min xs.length len * i.size))).toArray)
                            (by simp only [VRel]; exact ⟨_, q1, rfl⟩) rfl z path o z' hput u u1 u2
                          have p3' : v'.cells.toList = splice u.cells.toList o (splice v.cells.toList (off * i.size) (news.take (min xs.length len * i.size))) := by simpa [Value.cells] using p3
                          have hsize := xr.size
                          have hst := run_storeCells_at P gb (j * kr + o + off * i.size) e' (news.take (min xs.length len * i.size)) 0 cur w xr.heap (by omega) hone
                          refine ⟨_, _, F, m, run_copy (w' := w.setRow gb (splice cur.toList (j * kr + o + off * i.size) (news.take (min xs.length len * i.size))).toArray) h0 h1 hu hk (l1 w) rfl hf
                            (fun ad' he => by injection he with he; subst he; rw [had]; simpa [splice] using hst) (fun he => by cases he), Ext.refl _ _, VRel_vInt _, ?_, same_setRow _ _ _⟩
                          refine r.setRow hr xr (splice_size (by omega)) (by simpa using xr.len) (by simpa using xr.exact) (allK_set xr.all (by rw [p4, hlz])) ?_
                          have hset := CL_set xr.cells xr.all hil p1 p2 (by rw [p4, hlz])
                          have hlen' : (els.set j z').length = els.length := by simp
                          rw [hlen', List.toList_toArray]
                          have goal : (splice cur.toList (j * kr + o + off * i.size) (news.take (min xs.length len * i.size))).take (els.length * kr) = splice (cur.toList.take (els.length * kr)) (j * kr) v'.cells.toList := by
                            rw [take_splice (by omega) (by simp; omega), p3', u3]
                            have hL : (cur.toList.take (els.length * kr)).length = els.length * kr := by simp; omega
                            rw [v3, u3, hla]
                            generalize cur.toList.take (els.length * kr) = L at hL
                            rw [← splice_elem (L := L) (i := j * kr) (k := kr) (by omega) (by rw [splice_length] <;> simp <;> omega)]
                            have e1 : ((List.take kr (List.drop (j * kr) L)).drop o).take (l.length * i.size) = (L.drop (j * kr + o)).take (l.length * i.size) := by
                              rw [List.drop_take, List.take_take, Nat.min_eq_left (by omega), List.drop_drop]
                            rw [e1]
                            rw [← splice_elem (L := L) (i := j * kr + o) (k := l.length * i.size) (by omega) (by omega)]
                          rw [goal]
                          exact hset
                        · cases ho
                    · cases ho
                  · cases ho
              · cases ho
            · cases ho
        · cases ho
      · cases ho
    · cases ho
  · cases ho

end Go.AM
