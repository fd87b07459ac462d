/- Prefixes sorted: what Go's library does with a map's keys. Conditions: none. -/
import Derived.Test.YtobdjegooonklaaGreatAmSortR
set_option linter.unusedSimpArgs false
set_option linter.unusedVariables false
set_option maxRecDepth 100000
namespace Go.AM
open Go
variable {F F' : Fz} {m m' : Mp} {fr : FR} {a : Act} {h : Heap} {w : World} {P : Program}

/-- A call that may end in several ways. -/
def OvN (P : Program) (f : FuncId) (args : List AV) (h : Heap) (S : AV → Heap → Prop) : Prop := ∀ F m w vs, Rel F m h w → VL F m args vs → ∀ next : Value → World → Prop,
  (∀ y h' v w' F' m', S y h' → Ext F m F' m' → VRel F' m' y v → Rel F' m' h' w' → Same w w' → next v w') → UponC P next ((callFunc f vs.toArray).run P w)

/-- Code that may end in several ways. -/
def RunsS (P : Program) (nt : Nat) (c : Code) (st : St) (S : Ex → St → Prop) : Prop := ∀ F m a w, SRel F m nt st a w → ∀ Q : Exit → Act → World → Prop,
  (∀ ex st' a' w' F' m', S ex st' → Ext F m F' m' → SRel F' m' nt st' a' w' → Same w w' → Q (exOf ex) a' w') → c.wp P Q a w

def OpsS (P : Program) (nt : Nat) (ops : Array Oper) (i : Nat) (os : List Oper) (st : St) (S : St → Prop) : Prop := (∀ j, os[j]? = ops[i + j]?) → ∀ F m a w, SRel F m nt st a w → ∀ Q : Exit → Act → World → Prop,
  (∀ st' a' w' F' m', S st' → Ext F m F' m' → SRel F' m' nt st' a' w' → Same w w' → Q .normal a' w') → wpOps P ops Q (List.range' i os.length) a w

section
variable {nt : Nat} {x y : Code} {st st1 : St} {ops : Array Oper} {i : Nat} {o : Oper} {os : List Oper}
theorem runsS_seq {S1 S : Ex → St → Prop} (h1 : RunsS P nt x st S1) (h2 : ∀ ex st1, S1 ex st1 → ex = .normal ∧ RunsS P nt y st1 S) : RunsS P nt (.seq x y) st S := by
  intro F m a w s Q hq
  refine wp_seq (h1 F m a w s _ fun ex st1 a' w' F' m' hs he s' hsm => ?_)
  obtain ⟨rfl, h⟩ := h2 ex st1 hs
  show Exit.then _ Q .normal a' w'
  simp only [Exit.then]
  exact h F' m' a' w' s' Q fun ex2 st2 a2 w2 F2 m2 hs2 he2 s2 hsm2 => hq ex2 st2 a2 w2 F2 m2 hs2 (he.trans he2) s2 (hsm.trans hsm2)

theorem runsS_ret {S : Ex → St → Prop} (h : S .ret st) : RunsS P nt .ret st S := by
  intro F m a w s Q hq
  exact wp_ret (hq .ret st a w F m h (Ext.refl _ _) s (Same.refl _))

theorem opsS_nil {S : St → Prop} (h : S st) : OpsS P nt ops i [] st S := fun _ F m a w s Q hq => hq st a w F m h (Ext.refl _ _) s (Same.refl _)

theorem opsS_am {E : Env} (H : E.OK) {n : Nat} {f : FuncId} {n0 : Nat} {cl : Cl} {S : St → Prop} (hs : stepO E (call E n) f nt n0 ops o st = some (st1, cl)) (h : OpsS E.P nt ops (i + 1) os st1 S) : OpsS E.P nt ops i (o :: os) st S := by
  intro ho F m a w s Q hq
  have hi : ops[i]? = some o := by have := ho 0; simpa using this.symm
  rw [List.length_cons, List.range'_succ, wpOps_cons]
  refine stepO_sound H.zeros (call_ok H n).1 hi hs s fun a' w' F' m' he s' hsm => ?_
  refine h (fun j => ?_) F' m' a' w' s' Q fun st2 a2 w2 F2 m2 hs2 he2 s2 hsm2 => hq st2 a2 w2 F2 m2 hs2 (he.trans he2) s2 (hsm.trans hsm2)
  have := ho (j + 1)
  rw [List.getElem?_cons_succ] at this
  rw [this]
  congr 1
  omega

theorem opsS_call {c : Call} (hop : o.op = .call c) (hg : o.guard = none) {g : FuncId} {l : List AV} (hc : callArgs st.fr c = some (g, l)) {S1 : AV → Heap → Prop} (hS : OvN P g l st.h S1) {S : St → Prop}
    (hn : ∀ y h', S1 y h' → ∃ fr', putF nt st.fr o.dst y = some fr' ∧ OpsS P nt ops (i + 1) os ⟨fr', h', [], []⟩ S) : OpsS P nt ops i (o :: os) st S := by
  intro ho F m a w s Q hq
  have hi : ops[i]? = some o := by have := ho 0; simpa using this.symm
  rw [List.length_cons, List.range'_succ, wpOps_cons]
  unfold wpOp
  rw [hi]
  have hw : Region.wanted o (yielded ops a.tmps) = true := by simp [Region.wanted, hg]
  dsimp only
  rw [if_pos hw]
  refine .inl ?_
  unfold callArgs at hc
  split at hc
  · rename_i fx hfx
    split at hc
    · rename_i g' first captured l' hev hl
      simp only [Option.some.injEq, Prod.mk.injEq] at hc
      obtain ⟨rfl, rfl⟩ := hc
      have hv := ev_rel s.fr hev
      simp only [VRel] at hv
      obtain ⟨xs, ys, v1, v2, v3⟩ := hv
      have hvl := VL_append (VL_append v1 (evL_rel s.fr hl)) v2
      have key := hS F m w _ s.rel hvl (fun v w' => wpOps P ops Q (List.range' (i + 1) os.length) (a.put o.dst v) w') (fun y h' v w' F' m' hs1 he hv' hr' hsm => by
        obtain ⟨fr', hp, h⟩ := hn y h' hs1
        have s' : SRel F' m' nt ⟨fr', h', [], []⟩ (a.put o.dst v) w' := s.next he hp hv' hr'
        refine h (fun j => ?_) F' m' _ w' s' Q fun st2 a2 w2 F2 m2 hs2 he2 s2 hsm2 => hq st2 a2 w2 F2 m2 hs2 (he.trans he2) s2 (hsm.trans hsm2)
        have := ho (j + 1)
        rw [List.getElem?_cons_succ] at this
        rw [this]
        congr 1
        omega)
      have hex : execOp a.eval o = callFunc g' (xs ++ c.args.toList.map a.eval ++ ys).toArray := by
        unfold execOp
        rw [hop]
        have e4 : c.args.map a.eval = (c.args.toList.map a.eval).toArray := (map_toArray a.eval c.args _ rfl).symm
        simp only [resolve, hfx, Deferred.ofValue, v3]
        show callFunc g' (xs.toArray ++ c.args.map a.eval ++ ys.toArray) = _
        rw [e4]
        simp
      unfold Oper.wp
      rw [hex]
      generalize (callFunc g' (xs ++ c.args.toList.map a.eval ++ ys).toArray).run P w = res at key
      unfold UponC at key
      split at key
      · exact key
      · exact key.mono fun e w' he => by
          obtain ⟨v, rfl, hv⟩ := he
          exact hv
      · exact key.elim
    · cases hc
  · cases hc

theorem runsS_region {id : Nat} {S : St → Prop} (h : OpsS P nt ops 0 ops.toList st S) : RunsS P nt (.region id ops false) st (fun ex st' => ex = .normal ∧ S st') := by
  intro F m a w s Q hq
  refine wp_region ?_
  have := h (fun j => by simp) F m a w s Q fun st' a' w' F' m' hs => hq .normal st' a' w' F' m' ⟨rfl, hs⟩
  rw [List.range_eq_range']
  simpa using this
end

theorem ovN_fun {f : FuncId} {fn : Func} {c : Code} {args : List AV} {S : AV → Heap → Prop} (hf : P.funcs[f]? = some fn) (hb : fn.body = some c) (ef : ∀ args w, (callFunc f args).run P w = .ok (.enter f args) w) (hl : args.length ≤ fn.ntmps)
    (hrun : RunsS P fn.ntmps c ⟨args0 0 args, h, [], []⟩ (fun ex st => ex = .ret ∧ ∃ rs, resultsE P st fn.results.toList = some rs ∧ S (oneOrTup rs) st.h)) : OvN P f args h S := by
  intro F m w vs r hv next hn
  rw [ef]
  simp only [UponC]
  refine calls_of_wp hf hb ?_
  have hvl := VL_len hv
  have s0 : SRel F m fn.ntmps ⟨args0 0 args, h, [], []⟩ { tmps := vs.toArray ++ Array.replicate (fn.ntmps - vs.toArray.size) undef, defers := [] } w := by
    refine ⟨r, ⟨fun t z hz => ?_⟩, by simp; omega, rfl⟩
    obtain ⟨j, v, h1, h2, h3⟩ := args0_get args vs 0 t z hv hz
    have ht : t = j := by omega
    subst ht
    have hlt := lt_of_getElem? h2
    refine ⟨v, ?_, h3⟩
    rw [Array.getElem?_append_left (by simpa using hlt)]
    simpa using h2
  refine hrun F m _ w s0 _ fun ex st' a' w' F' m' hs he s' hsm => ?_
  obtain ⟨rfl, rs, hr, hS⟩ := hs
  obtain ⟨v, v1, v2⟩ := results_run s' hr
  exact ⟨s'.defers, v, v1, v, rfl, hn _ _ v w' F' m' hS he v2 s'.rel hsm⟩

end Go.AM

namespace Go.Proofs.YtobdjegooonklaaGreat
open Go Go.AM Go.Shelf

def sort96_ren : Go.Shelf.Ren := ⟨fun | 6 => 96 | 15 => 107 | 14 => 115 | 28 => 125 | 29 => 126 | 20 => 129 | 21 => 130 | 22 => 131 | 23 => 132 | 24 => 133 | 25 => 134 | 26 => 135 | 27 => 136 | 46 => 143 | 47 => 138 | 48 => 139 | 49 => 144 | 50 => 145 | 57 => 148 | n => n, fun | 22 => 110 | 24 => 55 | 25 => 96 | 3 => 3 | 39 => 122 | 0 => 0 | 53 => 56 | 55 => 71 | 4 => 4 | 46 => 176 | 45 => 175 | 50 => 147 | 5 => 5 | 9 => 9 | 66 => 189 | 70 => 192 | 76 => 196 | 77 => 197 | n => n, fun | n => n⟩
theorem sort96 : Go.Proofs.SlLaysF0.n6 Tryz.prog sort96_ren := {
  mixed := by kernel_rfl
  f6 := ⟨Tryz.f96.name, by decide, Tryz.func96.trans (congrArg some (by kernel_rfl))⟩
  f14 := ⟨Tryz.f115.name, by decide, Tryz.func115.trans (congrArg some (by kernel_rfl))⟩
  f15 := Tryz.func107.trans (congrArg some (by kernel_rfl))
  f20 := ⟨Tryz.f129.name, by decide, Tryz.func129.trans (congrArg some (by kernel_rfl))⟩
  f21 := ⟨Tryz.f130.name, by decide, Tryz.func130.trans (congrArg some (by kernel_rfl))⟩
  f22 := ⟨Tryz.f131.name, by decide, Tryz.func131.trans (congrArg some (by kernel_rfl))⟩
  f23 := ⟨Tryz.f132.name, by decide, Tryz.func132.trans (congrArg some (by kernel_rfl))⟩
  f24 := ⟨Tryz.f133.name, by decide, Tryz.func133.trans (congrArg some (by kernel_rfl))⟩
  f25 := ⟨Tryz.f134.name, by decide, Tryz.func134.trans (congrArg some (by kernel_rfl))⟩
  f26 := ⟨Tryz.f135.name, by decide, Tryz.func135.trans (congrArg some (by kernel_rfl))⟩
  f27 := ⟨Tryz.f136.name, by decide, Tryz.func136.trans (congrArg some (by kernel_rfl))⟩
  f28 := Tryz.func125.trans (congrArg some (by kernel_rfl))
  f29 := Tryz.func126.trans (congrArg some (by kernel_rfl))
  f46 := ⟨Tryz.f143.name, by decide, Tryz.func143.trans (congrArg some (by kernel_rfl))⟩
  f47 := Tryz.func138.trans (congrArg some (by kernel_rfl))
  f48 := Tryz.func139.trans (congrArg some (by kernel_rfl))
  f49 := ⟨Tryz.f144.name, by decide, Tryz.func144.trans (congrArg some (by kernel_rfl))⟩
  f50 := ⟨Tryz.f145.name, by decide, Tryz.func145.trans (congrArg some (by kernel_rfl))⟩
  f57 := ⟨Tryz.f148.name, by decide, Tryz.func148.trans (congrArg some (by kernel_rfl))⟩
  t0 := Tryz.underlying0
  a0 := Tryz.isAgg0
  z0 := Tryz.sizeOf0
  v0 := Tryz.zeroValue0
  t3 := Tryz.underlying3
  a3 := Tryz.isAgg3
  z3 := Tryz.sizeOf3
  v3 := Tryz.zeroValue3
  t4 := Tryz.underlying4
  a4 := Tryz.isAgg4
  z4 := Tryz.sizeOf4
  v4 := Tryz.zeroValue4
  t5 := Tryz.underlying5
  a5 := Tryz.isAgg5
  z5 := Tryz.sizeOf5
  v5 := Tryz.zeroValue5
  t9 := Tryz.underlying9
  a9 := Tryz.isAgg9
  z9 := Tryz.sizeOf9
  v9 := Tryz.zeroValue9
  t22 := Tryz.underlying110
  a22 := Tryz.isAgg110
  z22 := Tryz.sizeOf110
  v22 := Tryz.zeroValue110
  t25 := Tryz.underlying96
  a25 := Tryz.isAgg96
  z25 := Tryz.sizeOf96
  v25 := Tryz.zeroValue96
  t39 := Tryz.underlying122
  a39 := Tryz.isAgg122
  z39 := Tryz.sizeOf122
  v39 := Tryz.zeroValue122
  t45 := Tryz.underlying175
  a45 := Tryz.isAgg175
  z45 := Tryz.sizeOf175
  v45 := Tryz.zeroValue175
  t46 := Tryz.underlying176
  a46 := Tryz.isAgg176
  z46 := Tryz.sizeOf176
  v46 := Tryz.zeroValue176
  t50 := Tryz.underlying147
  a50 := Tryz.isAgg147
  z50 := Tryz.sizeOf147
  v50 := Tryz.zeroValue147
  t53 := Tryz.underlying56
  a53 := Tryz.isAgg56
  z53 := Tryz.sizeOf56
  v53 := Tryz.zeroValue56
  t55 := Tryz.underlying71
  a55 := Tryz.isAgg71
  z55 := Tryz.sizeOf71
  v55 := Tryz.zeroValue71
  t66 := Tryz.underlying189
  a66 := Tryz.isAgg189
  z66 := Tryz.sizeOf189
  v66 := Tryz.zeroValue189
  t70 := Tryz.underlying192
  a70 := Tryz.isAgg192
  z70 := Tryz.sizeOf192
  v70 := Tryz.zeroValue192
  t76 := Tryz.underlying196
  a76 := Tryz.isAgg196
  z76 := Tryz.sizeOf196
  v76 := Tryz.zeroValue196
  t77 := Tryz.underlying197
  a77 := Tryz.isAgg197
  z77 := Tryz.sizeOf197
  v77 := Tryz.zeroValue197 }

/-- A prefix whose address has its sixteen bytes. -/
abbrev PP := { p : Pre // p.ad.length = 16 }
instance : Inhabited PP := ⟨⟨⟨false, List.replicate 16 0, 0⟩, by simp⟩⟩
def encP (x : PP) : List Value := x.1.cells
def avP (x : PP) : AV := x.1.av
def cfP (x y : PP) : Int := cmpP x.1 y.1

theorem encP_len (x : PP) : (encP x).length = 18 := by
  have := x.2
  simp [encP, Pre.cells, this]
theorem avP_toV (x : PP) : ∃ v, toV (avP x) = some v ∧ v.cells.toList = encP x := ⟨_, Pre.toV x.1, by simp [Value.cells, encP]⟩
theorem encP_one (x : PP) : ∀ v ∈ encP x, v.oneCell' = true := by
  obtain ⟨v, h1, h2⟩ := avP_toV x
  rw [← h2]
  exact VRel.one (F := fun _ => none) (m := m0) (avP x) v (toV_self _ _ h1).1 (toV_self (F := fun _ => none) (m := m0) _ _ h1).2

theorem cfP_lex (x y : PP) : cfP x y = lexI x.1.key y.1.key := cmpP_lex x.2 y.2
theorem swoP : Sort.SWO (Go.Proofs.ltOf cfP) := by
  refine ⟨fun x => ?_, fun x y z h1 h2 => ?_, fun x y z h1 h2 => ?_⟩
  · simp [Go.Proofs.ltOf, cfP_lex, lexI_self]
  · simp only [Go.Proofs.ltOf, cfP_lex, decide_eq_true_eq] at *
    exact lexI_lt h1 h2
  · simp only [Go.Proofs.ltOf, cfP_lex, decide_eq_false_iff_not] at *
    intro h3
    have n1 := lexI_neg x.1.key y.1.key
    have n2 := lexI_neg y.1.key z.1.key
    by_cases e1 : lexI x.1.key y.1.key = 0
    · rw [lexI_zero e1] at h3; exact h2 h3
    · by_cases e2 : lexI y.1.key z.1.key = 0
      · rw [← lexI_zero e2] at h3; exact h1 h3
      · have := lexI_lt (a := z.1.key) (b := y.1.key) (c := x.1.key) (by omega) (by omega)
        have n3 := lexI_neg x.1.key z.1.key
        omega

theorem aggP55 : prun Tryz.prog (isAgg 55) = some true := by kernel_rfl
theorem sizeP55 : prun Tryz.prog (Go.sizeOf 55) = some 18 := by kernel_rfl

/-- Compare, in whatever world. -/
theorem closure49 (x y : PP) (W : World) : Calls Tryz.prog 49 #[.agg (encP x).toArray, .agg (encP y).toArray] W fun e w' => e = .returned (.int .i64 (cfP x y)) ∧ ∃ q os', w' = Sort.grow (W.drewN q) os' := by
  have hv : VL (F0 W) m0 [avP x, avP y] [.agg (encP x).toArray, .agg (encP y).toArray] := by
    simp only [VL]
    exact ⟨_, _, (toV_self _ _ (Pre.toV x.1)).1, ⟨_, _, (toV_self _ _ (Pre.toV y.1)).1, rfl, rfl⟩, rfl⟩
  exact num_calls e0_ok Tryz.func49 rfl rfl (Early.c49 0 x.1 y.1 x.2 y.2 []) hv

def pdqP (d : List PP) : List PP := (Sort.pdq (Go.Proofs.ltOf cfP) d.toArray 0 d.length (Lib.bitLen d.length) true true).toList

theorem sort96_calls (blk cap : Nat) (d : List PP) (w : World) (hH : Sort.HoldsK encP 18 w blk 0 d.toArray) (hblk : blk < w.heap.size) (hsz : d.length < 4611686018427387904) :
    Calls Tryz.prog 96 #[.slice (some ⟨blk, 0, none⟩) d.length cap, .func (.func 49) #[] #[]] w fun e w' => e = .returned (.tuple #[]) ∧ ∃ n os, w' = Go.Proofs.sortWorldK encP 18 w blk 0 n (pdqP d).toArray os := by
  have key := Go.Proofs.AnyQ.slices_SortFunc_eq sort96 18 (fun w => prun_run _ _ aggP55 w) (fun w => prun_run _ _ sizeP55 w) encP encP_len encP_one cfP swoP 49 #[] blk 0 cap d.toArray w (enters Tryz.func49 rfl rfl) (fun m os dk _ x y => closure49 x y _) hH hblk (by simpa using hsz)
  change Calls Tryz.prog 96 _ _ _ at key
  simpa [pdqP] using key

theorem pdqP_perm (d : List PP) : (pdqP d).Perm d ∧ (pdqP d).Pairwise (fun a b => cfP a b ≤ 0) := by
  obtain ⟨⟨h1, _, h2⟩, h3⟩ := Sort.pdq_sorts (Go.Proofs.ltOf cfP) swoP d.toArray 0 d.length (Lib.bitLen d.length) true true (Nat.zero_le _) (by simp) (.inl rfl)
  have hs : (pdqP d).length = d.length := by simpa [pdqP] using h1
  refine ⟨?_, ?_⟩
  · have e1 : ((Sort.pdq (Go.Proofs.ltOf cfP) d.toArray 0 d.length (Lib.bitLen d.length) true true).extract 0 d.length).toList = pdqP d := by
      rw [Array.toList_extract]
      simp only [pdqP] at hs ⊢
      simp [List.take_of_length_le, hs]
    have e2 : (d.toArray.extract 0 d.length).toList = d := by simp
    rw [e1, e2] at h2
    exact h2
  · rw [List.pairwise_iff_getElem]
    intro i j hi hj hij
    have := h3 i j (Nat.zero_le _) hij (by omega)
    have g : ∀ (n : Nat) (hn : n < (pdqP d).length), (Sort.pdq (Go.Proofs.ltOf cfP) d.toArray 0 d.length (Lib.bitLen d.length) true true)[n]! = (pdqP d)[n] := fun n hn => by
      rw [getElem!_pos _ n (by simpa [pdqP] using hn)]
      rfl
    rw [g i hi, g j hj] at this
    simp only [Go.Proofs.ltOf, decide_eq_false_iff_not] at this
    have n1 := lexI_neg ((pdqP d)[i]).1.key ((pdqP d)[j]).1.key
    rw [cfP_lex] at this ⊢
    omega

/-! ### A plain sort that comes to the same where no two are alike -/
def insP (x : PP) : List PP → List PP
  | [] => [x]
  | y :: l => bif decide (cfP x y ≤ 0) then x :: y :: l else y :: insP x l
def isortP : List PP → List PP
  | [] => []
  | x :: l => insP x (isortP l)
def strictP : List PP → Bool
  | [] => true
  | [_] => true
  | x :: y :: l => decide (cfP x y < 0) && strictP (y :: l)
def sortP (d : List PP) : List PP := bif strictP (isortP d) then isortP d else pdqP d

theorem insP_perm (x : PP) : ∀ l : List PP, (insP x l).Perm (x :: l)
  | [] => .refl _
  | y :: l => by
    unfold insP
    cases decide (cfP x y ≤ 0) with
    | true => exact .refl _
    | false => exact ((insP_perm x l).cons y).trans (.swap x y l)
theorem isortP_perm : ∀ l : List PP, (isortP l).Perm l
  | [] => .refl _
  | x :: l => (insP_perm x _).trans ((isortP_perm l).cons x)
theorem strictP_pairwise : ∀ {l : List PP}, strictP l = true → l.Pairwise (fun a b => cfP a b < 0)
  | [], _ => .nil
  | [_], _ => by simp
  | x :: y :: l, h => by
    simp only [strictP, Bool.and_eq_true, decide_eq_true_eq] at h
    have ih := strictP_pairwise h.2
    refine List.pairwise_cons.2 ⟨fun z hz => ?_, ih⟩
    rcases List.mem_cons.1 hz with rfl | hz
    · exact h.1
    · have := (List.pairwise_cons.1 ih).1 z hz
      have h1 := h.1
      rw [cfP_lex] at *
      exact lexI_lt h1 this
theorem perm_uniqueP : ∀ {a b : List PP}, a.Perm b → a.Pairwise (fun x y => cfP x y < 0) → b.Pairwise (fun x y => cfP x y ≤ 0) → a = b
  | [], b, h, _, _ => (h.symm.eq_nil).symm
  | x :: a, [], h, _, _ => by have := h.length_eq; simp at this
  | x :: a, y :: b, h, h1, h2 => by
    obtain ⟨h3, h4⟩ := List.pairwise_cons.1 h1
    obtain ⟨h5, h6⟩ := List.pairwise_cons.1 h2
    by_cases hxy : x = y
    · subst hxy
      rw [perm_uniqueP (List.Perm.cons_inv h) h4 h6]
    · have m1 : x ∈ b := by
        rcases List.mem_cons.1 (h.subset (List.mem_cons_self ..)) with h | h
        · exact (hxy h).elim
        · exact h
      have m2 : y ∈ a := by
        rcases List.mem_cons.1 (h.symm.subset (List.mem_cons_self ..)) with h | h
        · exact (hxy h.symm).elim
        · exact h
      have c1 := h3 y m2
      have c2 := h5 x m1
      rw [cfP_lex] at c1 c2
      have := lexI_neg x.1.key y.1.key
      omega
theorem sortP_pdq (d : List PP) : sortP d = pdqP d := by
  unfold sortP
  cases hs : strictP (isortP d) with
  | false => rfl
  | true =>
    obtain ⟨p1, p2⟩ := pdqP_perm d
    exact perm_uniqueP ((isortP_perm d).trans p1.symm) (strictP_pairwise hs) p2
theorem sortP_perm (d : List PP) : (sortP d).Perm d := by rw [sortP_pdq]; exact (pdqP_perm d).1
theorem sortP_sorted (d : List PP) : (sortP d).Pairwise (fun a b => cfP a b ≤ 0) := by rw [sortP_pdq]; exact (pdqP_perm d).2

/-! ### What the abstract machine says of a map's keys, sorted -/
def presDec : List AV → Option (List PP)
  | [] => some []
  | x :: l => match preDec x, presDec l with
    | some p, some d => if h : p.ad.length = 16 then some (⟨p, h⟩ :: d) else none
    | _, _ => none
def upB : List Nat → Bool
  | [] => true
  | [_] => true
  | a :: b :: l => Nat.blt a b && upB (b :: l)
theorem upB_pairwise : ∀ {l : List Nat}, upB l = true → l.Pairwise (· < ·)
  | [], _ => .nil
  | [_], _ => by simp
  | a :: b :: l, h => by
    simp only [upB, Bool.and_eq_true] at h
    have ih := upB_pairwise h.2
    have h1 : a < b := Nat.le_of_ble_eq_true h.1
    refine List.pairwise_cons.2 ⟨fun z hz => ?_, ih⟩
    rcases List.mem_cons.1 hz with rfl | hz
    · exact h1
    · exact Nat.lt_trans h1 ((List.pairwise_cons.1 ih).1 z hz)
theorem upB_nodup {l : List Nat} (h : upB l = true) : l.Nodup := (upB_pairwise h).imp fun h => Nat.ne_of_lt h

theorem presDec_eq : ∀ {l : List AV} {d : List PP}, presDec l = some d → l = d.map avP
  | [], d, h => by simp [presDec] at h; subst h; rfl
  | x :: l, d, h => by
    simp only [presDec] at h
    split at h
    · rename_i r d' h1 h2
      split at h
      · injection h with h
        subst h
        rw [preDec_eq h1, presDec_eq h2]
        rfl
      · cases h
    · cases h
theorem presDec_map : ∀ d : List PP, presDec (d.map avP) = some d
  | [] => rfl
  | r :: d => by
    have := r.2
    simp only [List.map_cons, presDec, presDec_map d, avP, preDec_av, this, dite_true]

/-- A map's keys, sorted, in a new row. -/
def ovKeys (gK gC : FuncId) : Ov := fun args h => match args with
  | [.fn (.func a) [] [.ptr id gen i p o], .fn (.func b) [] []] => bif Nat.beq a gK && Nat.beq b gC then
      match lookAt h (.ptr id gen i p o) with
      | some (.map m) => match h[m]? with
        | some (.map es c) => bif upB (es.map (·.2.2)) && (es.all (fun e => Nat.blt e.2.2 c) && Nat.blt es.length mostSeq) then
            match presDec (es.map (·.1)) with
            | some [] => some (nilS, h, ⟨[], [], true⟩)
            | some (k :: ks) => bif strictP (isortP (k :: ks)) then some (.sl h.length 0 0 (k :: ks).length, AM.newRow h 18 ((isortP (k :: ks)).map avP) ⟨false, 55⟩, ⟨[], [], false⟩) else none
            | none => none
          else none
        | _ => none
      | _ => none
    else none
  | _ => none

theorem ovKeys_eq {g c0 : FuncId} {args : List AV} {h h' : Heap} {y : AV} {e : Eff} (ho : ovKeys g c0 args h = some (y, h', e)) : ∃ id gen i p o mid es c ks, args = [.fn (.func g) [] [.ptr id gen i p o], .fn (.func c0) [] []] ∧ lookAt h (.ptr id gen i p o) = some (.map mid) ∧ h[mid]? = some (.map es c) ∧
    (es.map (·.2.2)).Nodup ∧ (∀ e ∈ es, e.2.2 < c) ∧ es.length < mostSeq ∧ es.map (·.1) = ks.map avP ∧
    ((ks = [] ∧ y = nilS ∧ h' = h ∧ e = ⟨[], [], true⟩) ∨ (ks ≠ [] ∧ strictP (isortP ks) = true ∧ y = .sl h.length 0 0 ks.length ∧ h' = AM.newRow h 18 ((isortP ks).map avP) ⟨false, 55⟩ ∧ e = ⟨[], [], false⟩)) := by
  unfold ovKeys at ho
  split at ho
  · rename_i a id gen i p o b
    cases hb : (Nat.beq a g && Nat.beq b c0) with
    | false => simp [hb] at ho
    | true =>
      rw [hb] at ho
      simp only [Bool.and_eq_true] at hb
      have e1 := Nat.eq_of_beq_eq_true hb.1
      have e2 := Nat.eq_of_beq_eq_true hb.2
      subst e1; subst e2
      simp only [cond_true] at ho
      split at ho
      · rename_i mid hs
        split at ho
        · rename_i es c hm
          cases hz : (upB (es.map (·.2.2)) && (es.all (fun e => Nat.blt e.2.2 c) && Nat.blt es.length mostSeq)) with
          | false => rw [hz] at ho; cases ho
          | true =>
            rw [hz] at ho
            simp only [Bool.and_eq_true] at hz
            obtain ⟨z1, z2, z3⟩ := hz
            have hlt : ∀ e ∈ es, e.2.2 < c := fun e he => Nat.le_of_ble_eq_true (List.all_eq_true.1 z2 e he)
            have hn : es.length < mostSeq := Nat.le_of_ble_eq_true z3
            simp only [cond_true] at ho
            split at ho
            · rename_i hd
              simp only [Option.some.injEq, Prod.mk.injEq] at ho
              obtain ⟨rfl, rfl, rfl⟩ := ho
              exact ⟨id, gen, i, p, o, mid, es, c, [], rfl, hs, hm, upB_nodup z1, hlt, hn, presDec_eq hd, .inl ⟨rfl, rfl, rfl, rfl⟩⟩
            · rename_i k ks hd
              cases hst : strictP (isortP (k :: ks)) with
              | false => rw [hst] at ho; cases ho
              | true =>
                rw [hst] at ho
                simp only [cond_true, Option.some.injEq, Prod.mk.injEq] at ho
                obtain ⟨rfl, rfl, rfl⟩ := ho
                exact ⟨id, gen, i, p, o, mid, es, c, k :: ks, rfl, hs, hm, upB_nodup z1, hlt, hn, presDec_eq hd, .inr ⟨by simp, hst, rfl, rfl, rfl⟩⟩
            · cases ho
        · cases ho
      · cases ho
  · cases ho

theorem body97 : ∃ j0 p01 p02 j1 p11 p12 j2 p21 p22 p23 p24 j3 p31 p32 p33 p34, Tryz.f97.body = some (.seq (.region j0 #[p01, p02] false) (.block 0 (.loop (.seq (.region j1 #[p11, p12] false) (.seq (.cond (.tmp 7) .skip (.exit 0)) (.block 1 (.seq (.region j2 #[p21, p22, p23, p24] false) (.seq (.region j3 #[p31, p32, p33, p34] false) (.cond (.tmp 13) .ret .skip))))))))) ∧
    KeyOps 105 55 4 p01 p02 p11 p12 p21 p22 p23 p24 p31 p32 p33 p34 :=
  ⟨_, _, _, _, _, _, _, _, _, _, _, _, _, _, _, _, rfl, ⟨⟨rfl, rfl, rfl⟩, ⟨rfl, rfl, rfl⟩, ⟨rfl, rfl, rfl⟩, ⟨rfl, rfl, rfl⟩, ⟨rfl, rfl, rfl⟩, ⟨rfl, rfl, rfl⟩, ⟨rfl, rfl, rfl⟩, ⟨rfl, rfl, rfl⟩, ⟨rfl, rfl, rfl⟩, ⟨rfl, rfl, rfl⟩, ⟨rfl, rfl, rfl⟩, ⟨rfl, rfl, rfl⟩⟩⟩

variable {F F' : Fz} {m m' : Mp} {w : World} {h : Heap}
theorem idf_avP (q : PP) : idfree (avP q) = true := by simp [avP, Pre.av, idfree, idfreeL, Zfu]
theorem end0' (h : Heap) (r : Row) : (h ++ [r])[h.length]? = some r := by simp

/-- What the keys' row may be, laid in some order. -/
def KeysAt (h : Heap) (d : List PP) (y : AV) (h' : Heap) : Prop := ∃ d' : List PP, d'.Perm d ∧ ((d = [] ∧ y = nilS ∧ h' = h) ∨ (d ≠ [] ∧ y = .sl h.length 0 0 d'.length ∧ h' = AM.newRow h 18 (d'.map avP) ⟨false, 55⟩))

theorem map_perm_av : ∀ {d : List PP} {l : List AV}, l.Perm (d.map avP) → ∃ d' : List PP, d'.Perm d ∧ l = d'.map avP := by
  intro d l hp
  have hall : ∀ x ∈ l, ∃ q : PP, x = avP q := fun x hx => by
    obtain ⟨q, _, rfl⟩ := List.mem_map.1 (hp.subset hx)
    exact ⟨q, rfl⟩
  have hex : ∃ d' : List PP, l = d'.map avP := by
    clear hp
    induction l with
    | nil => exact ⟨[], rfl⟩
    | cons x l ih =>
      obtain ⟨q, rfl⟩ := hall x (List.mem_cons_self ..)
      obtain ⟨d', rfl⟩ := ih fun y hy => hall y (List.mem_cons_of_mem _ hy)
      exact ⟨q :: d', rfl⟩
  obtain ⟨d', rfl⟩ := hex
  refine ⟨d', ?_, rfl⟩
  have h2 := hp.map preDec
  simp only [List.map_map] at h2
  have e : (preDec ∘ avP) = fun q : PP => some q.1 := by
    funext q
    simp [Function.comp, avP, preDec_av]
  rw [e] at h2
  have h3 := h2.filterMap (fun x : Option Pre => match x with | some p => if h : p.ad.length = 16 then some (⟨p, h⟩ : PP) else none | none => none)
  simp only [List.filterMap_map] at h3
  have e2 : ((fun x : Option Pre => match x with | some p => if h : p.ad.length = 16 then some (⟨p, h⟩ : PP) else none | none => none) ∘ fun q : PP => some q.1) = fun q : PP => some q := by
    funext q
    have := q.2
    simp [Function.comp, this]
  rw [e2] at h3
  simpa using h3

theorem ovN114 {id gen i o : Nat} {p : List Nat} {mid c : Nat} {es : List (AV × AV × Nat)} {d : List PP} (hs : lookAt h (.ptr id gen i p o) = some (.map mid)) (hm : h[mid]? = some (.map es c)) (hnd : (es.map (·.2.2)).Nodup) (hlt : ∀ e ∈ es, e.2.2 < c) (hmost : es.length < mostSeq) (hd : es.map (·.1) = d.map avP) :
    OvN Tryz.prog 114 [nilS, .fn (.func 97) [] [.ptr id gen i p o]] h (KeysAt h d) := by
  obtain ⟨i0, o0, i1, o1, iA, oA, iB, oB, i4, o4, hb, R⟩ := body114
  obtain ⟨j0, p01, p02, j1, p11, p12, j2, p21, p22, p23, p24, j3, p31, p32, p33, p34, hb97, O⟩ := body97
  intro F m w vs r hv next hnx
  simp only [VL] at hv
  obtain ⟨v1, _, h1, ⟨v2, _, h2, rfl, rfl⟩, rfl⟩ := hv
  simp only [VRel] at h1 h2
  obtain ⟨_, rfl⟩ := h1
  obtain ⟨xs, ys, g1, g2, rfl⟩ := h2
  simp only [VL] at g1
  subst g1
  have hkey : ∀ e ∈ es, ∃ v, toV e.1 = some v ∧ leafs e.1 = 18 := fun e he => by
    have : e.1 ∈ d.map avP := hd ▸ List.mem_map_of_mem he
    obtain ⟨q, _, hq⟩ := List.mem_map.1 this
    rw [← hq]
    have := q.2
    exact ⟨_, Pre.toV q.1, by simp [avP, Pre.av, AM.leafs, leafsL, leafs_bytes, this]⟩
  have hI := iter_keys (E := E0) e0_ok.zeros O (z := z55) (by kernel_rfl) (by kernel_rfl) s55 a55 (by kernel_rfl) (by kernel_rfl) (kt := 55) (et := 108) (by kernel_rfl) (by omega) Tryz.func97 rfl rfl hb97 hs hm hnd hlt hkey hmost
  have key := seq_calls (E := E0) e0_ok.zeros R Tryz.func114 hb rfl rfl (enters Tryz.func97 hb97 rfl) hI r g2
  have ef := enters Tryz.func114 hb rfl
  rw [ef]
  simp only [UponC]
  refine key.mono ?_
  rintro e w' ⟨v, rfl, xs, F', m', b, h2, ⟨dn, hperm, rfl⟩, sh, hbox, r2, he, hvb, hsm⟩
  have hp1 : (dn.map (·.1)).Perm (d.map avP) := by rw [← hd]; exact hperm.map _
  obtain ⟨d', hd', hdn⟩ := map_perm_av hp1
  obtain ⟨b', hb', hc⟩ := sh.box
  rw [hbox] at hb'
  injection hb' with hb'
  injection hb' with _ _ hb' _
  injection hb' with hb'
  subst hb'
  rw [hdn] at hc
  rcases hc with ⟨hem, rfl⟩ | ⟨hne, id2, gen2, ex, q1, rfl, q2, q3⟩
  · obtain ⟨r3, e3⟩ := Rel.back r r2 he sh.old
    have hd0 : d' = [] := List.map_eq_nil_iff.1 hem
    subst hd0
    have hd1 : d = [] := hd'.symm.eq_nil
    refine ⟨v, rfl, hnx nilS h v w' _ _ ⟨[], hd', .inl ⟨hd1, rfl, rfl⟩⟩ e3 ?_ r3 hsm⟩
    simpa [VRel] using hvb
  · have hf : idfreeL (d'.map avP) = true := idfreeL_of fun x hx => by
      obtain ⟨q, _, rfl⟩ := List.mem_map.1 hx
      exact idf_avP q
    obtain ⟨r3, e3⟩ := Rel.pick r r2 he sh.old (ex' := ⟨false, 55⟩) q1 q2 q3.symm rfl hf
    have hdne : d ≠ [] := fun h0 => by subst h0; rw [hd'.eq_nil] at hne; exact hne rfl
    refine ⟨v, rfl, hnx (.sl h.length 0 0 d'.length) (AM.newRow h 18 (d'.map avP) ⟨false, 55⟩) v w' _ _ ⟨d', hd', .inr ⟨hdne, rfl, rfl⟩⟩ e3 ?_ r3 hsm⟩
    simp only [List.length_map] at hvb
    simp only [VRel] at hvb ⊢
    simpa [AM.pick] using hvb

theorem nil96 (h : Heap) : call E0 300 96 [nilS, .fn (.func 49) [] []] h = some (.tup [], h, ⟨[], [], true⟩) := by kernel_rfl

theorem ovN96_nil : OvN Tryz.prog 96 [nilS, .fn (.func 49) [] []] h (fun y h' => y = .tup [] ∧ h' = h) :=
  fun F m w vs r hv next hnx => (call_ok e0_ok 300).1 _ _ _ _ _ _ (nil96 h) F m w vs r hv next fun v w' F' m' he hv hr hsm => hnx _ _ v w' F' m' ⟨rfl, rfl⟩ he hv hr hsm

theorem ovN96 {d : List PP} {id gen : Nat} {ex : Tag} (hi : h[id]? = some (.row 18 gen (d.map avP) ex)) (h1 : d ≠ []) (h2 : d.length < mostSeq) :
    OvN Tryz.prog 96 [.sl id gen 0 d.length, .fn (.func 49) [] []] h (fun y h' => y = .tup [] ∧ h' = h.set id (.row 18 gen ((sortP d).map avP) ex)) := by
  have hd1 : 1 ≤ d.length := by cases d with
    | nil => exact (h1 rfl).elim
    | cons => simp
  have ef : ∀ args w, (callFunc 96 args).run Tryz.prog w = .ok (.enter 96 args) w := enters Tryz.func96 rfl rfl
  intro F m w vs r hv next hnx
  simp only [VL] at hv
  obtain ⟨v1, _, h1, ⟨v2, _, h3, rfl, rfl⟩, rfl⟩ := hv
  simp only [VRel, VL] at h3
  obtain ⟨_, _, rfl, rfl, rfl⟩ := h3
  obtain ⟨g, C, hm, hlt, hC, hmost, hH, hw⟩ := sort_row r hi encP_len avP_toV
  simp only [VRel] at h1
  obtain ⟨g1, C1, k1, ad, q1, q2, q3, q4, q5, rfl⟩ := h1
  rw [hm] at q1
  simp only [Option.some.injEq, Prod.mk.injEq] at q1
  obtain ⟨rfl, rfl, rfl⟩ := q1
  have h0 : 0 < C := by omega
  have had : ad = ⟨g, 0, none⟩ := addr_eq q3 (by rw [q5 h0, Nat.zero_mul]) q4
  subst had
  have key := sort96_calls g (C - 0) d w hH hlt (by have : d.length < 1000000 := h2
                                                    omega)
  rw [show [Value.slice (some ⟨g, 0, none⟩) d.length (C - 0), .func (.func 49) ([] : List Value).toArray ([] : List Value).toArray].toArray = #[.slice (some ⟨g, 0, none⟩) d.length (C - 0), .func (.func 49) #[] #[]] from rfl, ef]
  simp only [UponC]
  refine key.mono ?_
  rintro e w' ⟨rfl, n, os, rfl⟩
  have hl : (pdqP d).length = d.length := (pdqP_perm d).1.length_eq
  obtain ⟨r1, sm⟩ := hw (pdqP d) n os hl
  rw [← sortP_pdq] at r1 sm ⊢
  exact ⟨_, rfl, hnx _ _ _ _ F m ⟨rfl, rfl⟩ (Ext.refl _ _) (by simp [VRel, VL]) r1 sm⟩

theorem body95 : ∃ i0 o0 i1 o1 o2 o3, Tryz.f95.body = some (.seq (.region i0 #[o0] false) (.seq (.region i1 #[o1, o2, o3] false) .ret)) ∧
    (∀ (h : Heap) (s : AV), ∃ cl, stepO E0 (call E0 300) 95 5 h.length #[o0] o0 ⟨[(0, s)], h, [], []⟩ = some (⟨[(2, nilS), (0, s)], h, [], []⟩, cl)) ∧
    (∀ (h : Heap) (s : AV), ∃ cl, stepO E0 (call E0 300) 95 5 h.length #[o1, o2, o3] o1 ⟨[(2, nilS), (0, s)], h, [], []⟩ = some (⟨[(3, s), (2, nilS), (0, s)], h, [], []⟩, cl)) ∧
    (∃ ty pos aft at_, o2 = ⟨some 4, .call { callee := .value (.func 114), args := #[.const (.slice none 0 0), .tmp 3], argTypes := at_ }, ty, pos, aft, none⟩) ∧
    (∀ (h : Heap) (s y : AV), ∃ cl, stepO E0 (call E0 300) 95 5 h.length #[o1, o2, o3] o3 ⟨[(4, y), (3, s), (2, nilS), (0, s)], h, [], []⟩ = some (⟨[(2, y), (4, y), (3, s), (2, nilS), (0, s)], h, [], []⟩, cl)) :=
  ⟨_, _, _, _, _, _, rfl, fun _ _ => ⟨_, rfl⟩, fun _ _ => ⟨_, rfl⟩, ⟨_, _, _, _, rfl⟩, fun _ _ _ => ⟨_, rfl⟩⟩
theorem ovN95 {p0 : AV} {S : AV → Heap → Prop} (hS : OvN Tryz.prog 114 [nilS, p0] h S) : OvN Tryz.prog 95 [p0] h S := by
  obtain ⟨i0, o0, i1, o1, o2, o3, hb, q0, q1, ⟨ty, pos, aft, at_, rfl⟩, q3⟩ := body95
  refine ovN_fun (fn := Tryz.f95) Tryz.func95 hb (enters Tryz.func95 hb rfl) (Nat.le_of_ble_eq_true rfl) ?_
  obtain ⟨c0, q0⟩ := q0 h p0
  obtain ⟨c1, q1⟩ := q1 h p0
  refine runsS_seq (runsS_region (opsS_am e0_ok q0 (opsS_nil (S := fun st => st = ⟨[(2, nilS), (0, p0)], h, [], []⟩) rfl))) ?_
  rintro _ _ ⟨rfl, rfl⟩
  refine ⟨rfl, runsS_seq (runsS_region (opsS_am e0_ok q1 (opsS_call rfl rfl (g := 114) (l := [nilS, p0]) (by kernel_rfl) hS (S := fun st => ∃ y, st.fr = [(2, y), (4, y), (3, p0), (2, nilS), (0, p0)] ∧ S y st.h) fun y h' hy => ⟨_, rfl, ?_⟩))) ?_⟩
  · obtain ⟨c3, q3⟩ := q3 h' p0 y
    exact opsS_am e0_ok q3 (opsS_nil ⟨y, rfl, hy⟩)
  · rintro _ ⟨fr, h2, ds, ls⟩ ⟨rfl, y, hfr, hy⟩
    simp only at hfr
    subst hfr
    exact ⟨rfl, runsS_ret ⟨rfl, [y], rfl, hy⟩⟩

theorem body55 : ∃ i0 o0 i1 o1 o2 o3 i2 o4 o5 o6 i3 o7 o8, Tryz.f55.body = some (.seq (.region i0 #[o0] false) (.seq (.region i1 #[o1, o2, o3] false) (.seq (.region i2 #[o4, o5, o6] false) (.seq (.region i3 #[o7, o8] false) .ret)))) ∧
    (∀ (h : Heap) (s c : AV), ∃ cl, stepO E0 (call E0 300) 55 12 h.length #[o0] o0 ⟨[(0, s), (1, c)], h, [], []⟩ = some (⟨[(4, nilS), (0, s), (1, c)], h, [], []⟩, cl)) ∧
    (∀ (h : Heap) (s c : AV), ∃ cl, stepO E0 (call E0 300) 55 12 h.length #[o1, o2, o3] o1 ⟨[(4, nilS), (0, s), (1, c)], h, [], []⟩ = some (⟨[(6, s), (4, nilS), (0, s), (1, c)], h, [], []⟩, cl)) ∧
    (∃ ty pos aft at_, o2 = ⟨some 7, .call { callee := .value (.func 95), args := #[.tmp 6], argTypes := at_ }, ty, pos, aft, none⟩) ∧
    (∀ (h : Heap) (s c y : AV), ∃ cl, stepO E0 (call E0 300) 55 12 h.length #[o1, o2, o3] o3 ⟨[(7, y), (6, s), (4, nilS), (0, s), (1, c)], h, [], []⟩ = some (⟨[(5, y), (7, y), (6, s), (4, nilS), (0, s), (1, c)], h, [], []⟩, cl)) ∧
    (∀ (h : Heap) (s c y : AV), ∃ cl, stepO E0 (call E0 300) 55 12 h.length #[o4, o5, o6] o4 ⟨[(5, y), (7, y), (6, s), (4, nilS), (0, s), (1, c)], h, [], []⟩ = some (⟨[(8, y), (5, y), (7, y), (6, s), (4, nilS), (0, s), (1, c)], h, [], []⟩, cl)) ∧
    (∀ (h : Heap) (s c y : AV), ∃ cl, stepO E0 (call E0 300) 55 12 h.length #[o4, o5, o6] o5 ⟨[(8, y), (5, y), (7, y), (6, s), (4, nilS), (0, s), (1, c)], h, [], []⟩ = some (⟨[(9, c), (8, y), (5, y), (7, y), (6, s), (4, nilS), (0, s), (1, c)], h, [], []⟩, cl)) ∧
    (∃ ty pos aft at_, o6 = ⟨some 10, .call { callee := .value (.func 96), args := #[.tmp 8, .tmp 9], argTypes := at_ }, ty, pos, aft, none⟩) ∧
    (∀ (h : Heap) (s c y : AV), ∃ cl, stepO E0 (call E0 300) 55 12 h.length #[o7, o8] o7 ⟨[(10, .tup []), (9, c), (8, y), (5, y), (7, y), (6, s), (4, nilS), (0, s), (1, c)], h, [], []⟩ = some (⟨[(11, y), (10, .tup []), (9, c), (8, y), (5, y), (7, y), (6, s), (4, nilS), (0, s), (1, c)], h, [], []⟩, cl)) ∧
    (∀ (h : Heap) (s c y : AV), ∃ cl, stepO E0 (call E0 300) 55 12 h.length #[o7, o8] o8 ⟨[(11, y), (10, .tup []), (9, c), (8, y), (5, y), (7, y), (6, s), (4, nilS), (0, s), (1, c)], h, [], []⟩ = some (⟨[(4, y), (11, y), (10, .tup []), (9, c), (8, y), (5, y), (7, y), (6, s), (4, nilS), (0, s), (1, c)], h, [], []⟩, cl)) :=
  ⟨_, _, _, _, _, _, _, _, _, _, _, _, _, rfl, fun _ _ _ => ⟨_, rfl⟩, fun _ _ _ => ⟨_, rfl⟩, ⟨_, _, _, _, rfl⟩, fun _ _ _ _ => ⟨_, rfl⟩, fun _ _ _ _ => ⟨_, rfl⟩, fun _ _ _ _ => ⟨_, rfl⟩, ⟨_, _, _, _, rfl⟩, fun _ _ _ _ => ⟨_, rfl⟩, fun _ _ _ _ => ⟨_, rfl⟩⟩

theorem ovN55 {p0 p1 : AV} {S1 S : AV → Heap → Prop} (hS : OvN Tryz.prog 95 [p0] h S1) (hT : ∀ y h1, S1 y h1 → OvN Tryz.prog 96 [y, p1] h1 fun z h2 => z = .tup [] ∧ S y h2) : OvN Tryz.prog 55 [p0, p1] h S := by
  obtain ⟨i0, o0, i1, o1, o2, o3, i2, o4, o5, o6, i3, o7, o8, hb, q0, q1, ⟨ty, pos, aft, at_, rfl⟩, q3, q4, q5, ⟨ty2, pos2, aft2, at2, rfl⟩, q7, q8⟩ := body55
  refine ovN_fun (fn := Tryz.f55) Tryz.func55 hb (enters Tryz.func55 hb rfl) (Nat.le_of_ble_eq_true rfl) ?_
  obtain ⟨c0, q0⟩ := q0 h p0 p1
  obtain ⟨c1, q1⟩ := q1 h p0 p1
  refine runsS_seq (runsS_region (opsS_am e0_ok q0 (opsS_nil (S := fun st => st = ⟨[(4, nilS), (0, p0), (1, p1)], h, [], []⟩) rfl))) ?_
  rintro _ _ ⟨rfl, rfl⟩
  refine ⟨rfl, runsS_seq (runsS_region (opsS_am e0_ok q1 (opsS_call rfl rfl (g := 95) (l := [p0]) (by kernel_rfl) hS (S := fun st => ∃ y, st = ⟨[(5, y), (7, y), (6, p0), (4, nilS), (0, p0), (1, p1)], st.h, [], []⟩ ∧ S1 y st.h) fun y h' hy => ⟨_, rfl, ?_⟩))) ?_⟩
  · obtain ⟨c3, q3⟩ := q3 h' p0 p1 y
    exact opsS_am e0_ok q3 (opsS_nil ⟨y, rfl, hy⟩)
  · rintro _ st1 ⟨rfl, y, hst, hy⟩
    refine ⟨rfl, ?_⟩
    rw [hst]
    generalize st1.h = h1 at hy
    obtain ⟨c4, q4⟩ := q4 h1 p0 p1 y
    obtain ⟨c5, q5⟩ := q5 h1 p0 p1 y
    refine runsS_seq (runsS_region (opsS_am e0_ok q4 (opsS_am e0_ok q5 (opsS_call rfl rfl (g := 96) (l := [y, p1]) (by kernel_rfl) (hT y h1 hy) (S := fun st => st = ⟨[(10, .tup []), (9, p1), (8, y), (5, y), (7, y), (6, p0), (4, nilS), (0, p0), (1, p1)], st.h, [], []⟩ ∧ S y st.h) fun z h2 hz => ⟨_, rfl, opsS_nil ?_⟩)))) ?_
    · obtain ⟨rfl, hz⟩ := hz
      exact ⟨rfl, hz⟩
    · rintro _ st2 ⟨rfl, hst, hy⟩
      refine ⟨rfl, ?_⟩
      rw [hst]
      generalize st2.h = h2 at hy
      obtain ⟨c7, q7⟩ := q7 h2 p0 p1 y
      obtain ⟨c8, q8⟩ := q8 h2 p0 p1 y
      refine runsS_seq (runsS_region (opsS_am e0_ok q7 (opsS_am e0_ok q8 (opsS_nil (S := fun st => st = ⟨[(4, y), (11, y), (10, .tup []), (9, p1), (8, y), (5, y), (7, y), (6, p0), (4, nilS), (0, p0), (1, p1)], h2, [], []⟩) rfl)))) ?_
      rintro _ _ ⟨rfl, rfl⟩
      exact ⟨rfl, runsS_ret ⟨rfl, [y], rfl, hy⟩⟩

theorem isortP_eq {d d' : List PP} (hp : d'.Perm d) (hs : strictP (isortP d) = true) : sortP d' = isortP d :=
  (perm_uniqueP ((isortP_perm d).trans (hp.symm.trans (sortP_perm d').symm)) (strictP_pairwise hs) (sortP_sorted d')).symm

theorem ovKeys_ok : OvOK Tryz.prog 55 (ovKeys 97 49) := by
  refine ⟨fun args h y h' e ho F m w vs r hv next hnx => ?_, fun args h y h' e ho hq => ?_, fun args h y h' e ho => ?_⟩ <;> obtain ⟨id, gen, i, p, o, mid, es, c, ks, rfl, hs, hm, hnd, hlt, hmost, hd, hcase⟩ := ovKeys_eq ho
  · have k95 := ovN95 (ovN114 hs hm hnd hlt hmost hd)
    have hl : ks.length < mostSeq := by
      have := congrArg List.length hd
      simp only [List.length_map] at this
      omega
    have k55 : OvN Tryz.prog 55 [.fn (.func 97) [] [.ptr id gen i p o], .fn (.func 49) [] []] h (fun z h2 => z = y ∧ h2 = h') := by
      refine ovN55 k95 fun z h1 hz => ?_
      obtain ⟨d', hp, ⟨h0, rfl, rfl⟩ | ⟨h0, rfl, rfl⟩⟩ := hz
      · rcases hcase with ⟨_, rfl, rfl, _⟩ | ⟨hne, _⟩
        · intro F m w vs r hv next hn
          exact ovN96_nil F m w vs r hv next fun y h' v w' F' m' hs => hn y h' v w' F' m' ⟨hs.1, rfl, hs.2⟩
        · exact (hne h0).elim
      · rcases hcase with ⟨hz, _⟩ | ⟨hne, hst, rfl, rfl, _⟩
        · exact (h0 hz).elim
        · have hd0 : d' ≠ [] := fun h => by subst h; exact h0 hp.symm.eq_nil
          have hlen := hp.length_eq
          intro F m w vs r hv next hn
          refine ovN96 (d := d') (id := h.length) (gen := 0) (ex := ⟨false, 55⟩) (end0' _ _) hd0 (by omega) F m w vs r hv next fun y h' v w' F' m' hs => hn y h' v w' F' m' ⟨hs.1, by rw [hlen], ?_⟩
          have e := set_last (h := h) (r := Row.row 18 0 (d'.map avP) ⟨false, 55⟩) (r' := Row.row 18 0 ((isortP ks).map avP) ⟨false, 55⟩)
          have e2 := hs.2
          rw [isortP_eq hp hst] at e2
          exact e2.trans e
    exact k55 F m w vs r hv next fun z h2 v w' F' m' hz he hv hr hsm => by
      obtain ⟨rfl, rfl⟩ := hz
      exact hnx v w' F' m' he hv hr hsm
  · rcases hcase with ⟨_, rfl, rfl, rfl⟩ | ⟨_, _, rfl, rfl, rfl⟩
    · exact ⟨rfl, rfl, rfl⟩
    · cases hq
  · rcases hcase with ⟨_, rfl, rfl, rfl⟩ | ⟨_, _, rfl, rfl, rfl⟩
    · exact Law.refl _
    · exact Law.new _ _

end Go.Proofs.YtobdjegooonklaaGreat
