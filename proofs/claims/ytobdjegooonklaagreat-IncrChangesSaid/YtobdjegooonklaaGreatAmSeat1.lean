/- slices.AppendSeq of the seat. Conditions: none. -/
import Derived.Test.YtobdjegooonklaaGreatAmSeat0
import Derived.Test.YtobdjegooonklaaGreatAmOne
set_option linter.unusedVariables false
set_option linter.unusedSimpArgs false
set_option maxRecDepth 100000
set_option maxHeartbeats 1000000
namespace Go.Proofs.YtobdjegooonklaaGreat
open Go Go.AM

theorem set_last {h : Heap} {r r' : Row} : (h ++ [r]).set h.length r' = h ++ [r'] := by simp
theorem get_last {h : Heap} {r : Row} : (h ++ [r])[h.length]? = some r := by simp

def z55 : AV := .agg [.v (.bool false), .agg (List.replicate 16 (.v (.int .u8 0))), .v (.int .i64 0)]
def z58 : AV := .agg [z55, .v (.int .i64 0), .v (.int .u32 0)]
theorem s58 : szOf E0.P 58 = some 20 := by kernel_rfl
theorem a58 : aggT E0.P 58 = some true := by kernel_rfl
theorem s36 : szOf E0.P 36 = some 1 := by kernel_rfl
theorem a36 : aggT E0.P 36 = some false := by kernel_rfl
theorem u36 : E0.P.underlying 36 = some (.slice 58) := by kernel_rfl
theorem e58 : E0.zero 58 = some z58 := by kernel_rfl
theorem s55 : szOf E0.P 55 = some 18 := by kernel_rfl
theorem a55 : aggT E0.P 55 = some true := by kernel_rfl
theorem s110 : szOf E0.P 110 = some 1 := by kernel_rfl
theorem a110 : aggT E0.P 110 = some false := by kernel_rfl
theorem u110 : E0.P.underlying 110 = some (.slice 55) := by kernel_rfl
theorem e55 : E0.zero 55 = some z55 := by kernel_rfl

/-- What a type's table tells. -/
theorem info_of {P : Program} {t : TypeId} {k b : Nat} (h1 : (P.info? t).map (·.size) = some k) (h2 : ((P.info? t).bind (·.zero)).map (·.cells.size) = some k) (h3 : (P.info? t).map (·.bytes) = some b) : ∃ i zv, P.info? t = some i ∧ i.zero = some zv ∧ zv.cells.size = k ∧ i.size = k ∧ i.bytes = b := by
  cases hi : P.info? t with
  | none => rw [hi] at h1; cases h1
  | some i =>
    rw [hi] at h1 h2 h3
    simp only [Option.map_some, Option.some.injEq] at h1 h3
    simp only [Option.bind_some] at h2
    cases hz : i.zero with
    | none => rw [hz] at h2; cases h2
    | some zv =>
      rw [hz] at h2
      simp only [Option.map_some, Option.some.injEq] at h2
      exact ⟨i, zv, rfl, hz, h2, h1, h3⟩

theorem body105 : ∃ i0 o0 i1 o1 iA oA iB oB i4 o4, Tryz.f105.body = some (.seq (.region i0 o0 false) (.seq (.seq (.region i1 o1 false) (.block 0 (.rangeFunc (.tmp 6) #[7] (.region iA oA false) (.block 1 (.region iB oB false))))) (.seq (.region i4 o4 false) .ret))) ∧
    SeqRuns E0 105 36 58 20 o0 o1 oA oB o4 := by
  refine ⟨_, _, _, _, _, _, _, _, _, _, rfl, ⟨?_, ?_, ?_, ?_, ?_⟩⟩
  · intro h s
    kernel_rfl
  · intro h n0 s p
    kernel_rfl
  · intro h n0 p x v hx hk
    refine run_cons (fr1 := [(5, .ptr h.length 0 0 [] 0), (7, x), (2, p)]) (h1 := h ++ [Row.row 20 0 [z58] ⟨true, 58⟩]) (by kernel_rfl) ?_
    refine run_cons (fr1 := [(5, .ptr h.length 0 0 [] 0), (7, x), (2, p)]) (h1 := h ++ [Row.row 20 0 [x] ⟨true, 58⟩]) ?_ run_nil
    have e := set_last (h := h) (r := Row.row 20 0 [z58] ⟨true, 58⟩) (r' := Row.row 20 0 [x] ⟨true, 58⟩)
    rw [← e]
    exact step_store rfl rfl rfl rfl rfl (store_one s58 get_last rfl hk (isTupA_of hx))
  · intro h0 h n0 xs x v sh hl hx hk
    obtain ⟨i, zv, q1, q2, q3, q4, q5⟩ := info_of (P := E0.P) (t := 58) (k := 20) (b := 48) (by kernel_rfl) (by kernel_rfl) (by kernel_rfl)
    exact rb_gen (E := E0) rfl ⟨rfl, rfl, rfl⟩ ⟨rfl, rfl, rfl⟩ ⟨rfl, rfl, rfl⟩ ⟨rfl, rfl, rfl⟩ ⟨rfl, rfl, rfl⟩ s36 a36 s58 a58 u36 q1 q2 q3 q4 (by omega) (by omega) (by omega) (by omega) e58 rfl rfl h0 h n0 xs x v sh hl hx hk
  · intro h n0 q b s hb1 hb2 hq
    refine ⟨[(4, b), (12, b), (6, s), (4, nilS), (2, .ptr q 0 0 [] 0), (0, nilS), (1, s)], ?_, rfl⟩
    refine run_cons (fr1 := [(12, b), (6, s), (4, nilS), (2, .ptr q 0 0 [] 0), (0, nilS), (1, s)]) (h1 := h) ?_ ?_
    · exact step_load rfl rfl rfl (load_one s36 a36 hq hb2 hb1.symm) rfl
    · exact run_cons (fr1 := [(4, b), (12, b), (6, s), (4, nilS), (2, .ptr q 0 0 [] 0), (0, nilS), (1, s)]) (h1 := h) (by kernel_rfl) run_nil

theorem body114 : ∃ i0 o0 i1 o1 iA oA iB oB i4 o4, Tryz.f114.body = some (.seq (.region i0 o0 false) (.seq (.seq (.region i1 o1 false) (.block 0 (.rangeFunc (.tmp 6) #[7] (.region iA oA false) (.block 1 (.region iB oB false))))) (.seq (.region i4 o4 false) .ret))) ∧
    SeqRuns E0 114 110 55 18 o0 o1 oA oB o4 := by
  refine ⟨_, _, _, _, _, _, _, _, _, _, rfl, ⟨?_, ?_, ?_, ?_, ?_⟩⟩
  · intro h s
    kernel_rfl
  · intro h n0 s p
    kernel_rfl
  · intro h n0 p x v hx hk
    refine run_cons (fr1 := [(5, .ptr h.length 0 0 [] 0), (7, x), (2, p)]) (h1 := h ++ [Row.row 18 0 [z55] ⟨true, 55⟩]) (by kernel_rfl) ?_
    refine run_cons (fr1 := [(5, .ptr h.length 0 0 [] 0), (7, x), (2, p)]) (h1 := h ++ [Row.row 18 0 [x] ⟨true, 55⟩]) ?_ run_nil
    have e := set_last (h := h) (r := Row.row 18 0 [z55] ⟨true, 55⟩) (r' := Row.row 18 0 [x] ⟨true, 55⟩)
    rw [← e]
    exact step_store rfl rfl rfl rfl rfl (store_one s55 get_last rfl hk (isTupA_of hx))
  · intro h0 h n0 xs x v sh hl hx hk
    obtain ⟨i, zv, q1, q2, q3, q4, q5⟩ := info_of (P := E0.P) (t := 55) (k := 18) (b := 32) (by kernel_rfl) (by kernel_rfl) (by kernel_rfl)
    exact rb_gen (E := E0) rfl ⟨rfl, rfl, rfl⟩ ⟨rfl, rfl, rfl⟩ ⟨rfl, rfl, rfl⟩ ⟨rfl, rfl, rfl⟩ ⟨rfl, rfl, rfl⟩ s110 a110 s55 a55 u110 q1 q2 q3 q4 (by omega) (by omega) (by omega) (by omega) e55 rfl rfl h0 h n0 xs x v sh hl hx hk
  · intro h n0 q b s hb1 hb2 hq
    refine ⟨[(4, b), (12, b), (6, s), (4, nilS), (2, .ptr q 0 0 [] 0), (0, nilS), (1, s)], ?_, rfl⟩
    refine run_cons (fr1 := [(12, b), (6, s), (4, nilS), (2, .ptr q 0 0 [] 0), (0, nilS), (1, s)]) (h1 := h) ?_ ?_
    · exact step_load rfl rfl rfl (load_one s110 a110 hq hb2 hb1.symm) rfl
    · exact run_cons (fr1 := [(4, b), (12, b), (6, s), (4, nilS), (2, .ptr q 0 0 [] 0), (0, nilS), (1, s)]) (h1 := h) (by kernel_rfl) run_nil

theorem enters {f : FuncId} {fn : Func} {c : Code} (hf : Tryz.prog.funcs[f]? = some fn) (hb : fn.body = some c) (hn : (fn.name == "runtime.NumGoroutine") = false) : ∀ args w, (callFunc f args).run Tryz.prog w = .ok (.enter f args) w := fun args w => callFunc_enter hf hb hn args

theorem body85 : ∃ j0 p01 p02 p03 j1 p1 j2 p21 p22 p23 p24 j3 p31 p32 p33 p34 j4 p41 p42, Tryz.f85.body = some (.seq (.region j0 #[p01, p02, p03] false) (.block 0 (.loop (.seq (.region j1 #[p1] false) (.seq (.cond (.tmp 8) .skip (.exit 0)) (.seq (.block 1 (.seq (.region j2 #[p21, p22, p23, p24] false) (.seq (.region j3 #[p31, p32, p33, p34] false) (.cond (.tmp 14) .ret .skip)))) (.region j4 #[p41, p42] false))))))) ∧
    ValOps 36 58 4 3 p01 p02 p03 p1 p21 p22 p23 p24 p31 p32 p33 p34 p41 p42 :=
  ⟨_, _, _, _, _, _, _, _, _, _, _, _, _, _, _, _, _, _, _, rfl, ⟨⟨rfl, rfl, rfl⟩, ⟨rfl, rfl, rfl⟩, ⟨rfl, rfl, rfl⟩, ⟨rfl, rfl, rfl⟩, ⟨rfl, rfl, rfl⟩, ⟨rfl, rfl, rfl⟩, ⟨rfl, rfl, rfl⟩, ⟨rfl, rfl, rfl⟩, ⟨rfl, rfl, rfl⟩, ⟨rfl, rfl, rfl⟩, ⟨rfl, rfl, rfl⟩, ⟨rfl, rfl, rfl⟩, ⟨rfl, rfl, rfl⟩, ⟨rfl, rfl, rfl⟩⟩⟩

theorem ov105 : OvOK Tryz.prog 105 (ovVals 85 20 58) := by
  obtain ⟨i0, o0, i1, o1, iA, oA, iB, oB, i4, o4, hb, R⟩ := body105
  obtain ⟨j0, p01, p02, p03, j1, p1, j2, p21, p22, p23, p24, j3, p31, p32, p33, p34, j4, p41, p42, hb85, O⟩ := body85
  refine ovVals_ok (E := E0) e0_ok.zeros R Tryz.func105 hb rfl rfl (enters Tryz.func105 hb rfl) (enters Tryz.func85 hb85 rfl) u36 s58 a58 (by decide) fun h0 id gen i o p s xs hl T hm => ?_
  exact iter_vals (E := E0) e0_ok.zeros O e58 rfl s58 a58 s36 a36 u36 (by decide) Tryz.func85 rfl rfl hb85 hl T hm

end Go.Proofs.YtobdjegooonklaaGreat
