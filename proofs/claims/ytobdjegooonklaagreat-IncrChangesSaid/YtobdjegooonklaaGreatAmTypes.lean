/- The arguments' types of the seat: prefixes, routes, changes. Conditions: none. -/
import Derived.Test.YtobdjegooonklaaGreatAmBridge
import Derived.OpenShut
import Derived.Test.YtobdjegooonklaaGreatAmEnv
import Derived.KernelRfl
set_option linter.unusedVariables false
set_option linter.unusedSimpArgs false
namespace Go.Proofs.YtobdjegooonklaaGreat
open Go Go.AM Go.Deep

structure Pre where
  six : Bool
  ad : List UInt8
  len : Int
structure Route where
  to : Pre
  metric : Int
  seq : Int
structure Inc where
  kind : Int
  r : Route

def i64 (n : Int) : Prop := -9223372036854775808 ≤ n ∧ n ≤ 9223372036854775807
def Pre.av (p : Pre) : AV := .agg [.v (.bool p.six), .agg (ofBytes p.ad), .v (.int .i64 p.len)]
def Route.av (r : Route) : AV := .agg [r.to.av, .v (.int .i64 r.metric), .v (.int .u32 r.seq)]
def Inc.av (i : Inc) : AV := .agg [.v (.int .i64 i.kind), i.r.av]
def Pre.ok (p : Pre) : Prop := p.ad.length = 16 ∧ i64 p.len
def Route.ok (r : Route) : Prop := r.to.ok ∧ i64 r.metric ∧ 0 ≤ r.seq ∧ r.seq ≤ 4294967295
def Inc.ok (i : Inc) : Prop := i64 i.kind ∧ i.r.ok

def byteV (b : UInt8) : Value := .int .u8 b.toNat
def Pre.cells (p : Pre) : List Value := .bool p.six :: (p.ad.map byteV ++ [.int .i64 p.len])
def Route.cells (r : Route) : List Value := r.to.cells ++ [.int .i64 r.metric, .int .u32 r.seq]
def Inc.cells (i : Inc) : List Value := .int .i64 i.kind :: i.r.cells

theorem toVs_bytes : ∀ l : List UInt8, toVs (ofBytes l) = some (l.map byteV)
  | [] => rfl
  | b :: l => by
    have := toVs_bytes l
    simp only [ofBytes, List.map_cons] at this ⊢
    simp only [toVs, toV, free, this]
    rfl
theorem leafs_bytes (l : List UInt8) : leafsL (ofBytes l) = l.length := by
  rw [allK_leafs (allK_bytes l)]; simp [ofBytes]
theorem Pre.toV (p : Pre) : AM.toV p.av = some (.agg p.cells.toArray) := by
  simp [Pre.av, AM.toV, toVs, free, toVs_bytes, Value.cells, Pre.cells]
theorem Route.toV (r : Route) : AM.toV r.av = some (.agg r.cells.toArray) := by
  simp [Route.av, AM.toV, toVs, free, Pre.toV, Value.cells, Route.cells]
theorem Inc.toV (i : Inc) : AM.toV i.av = some (.agg i.cells.toArray) := by
  simp [Inc.av, AM.toV, toVs, free, Route.toV, Value.cells, Inc.cells]
theorem Pre.leafs {p : Pre} (h : p.ok) : AM.leafs p.av = 18 := by
  simp [Pre.av, AM.leafs, leafsL, leafs_bytes, h.1]
theorem Route.leafs {r : Route} (h : r.ok) : AM.leafs r.av = 20 := by
  simp [Route.av, AM.leafs, leafsL, Pre.leafs h.1]
theorem Inc.leafs {i : Inc} (h : i.ok) : AM.leafs i.av = 21 := by
  simp [Inc.av, AM.leafs, leafsL, Route.leafs h.2]

section
variable {H : Type} {enc : TypeId × Value → H} {W : World} {spare : Nat → Bool} {held : Bool}

theorem bytes_of : ∀ (n : Nat) (cs : List Value), cs.length = n → (∀ i, i < n → ∃ k : Int, (cs.drop i).take 1 = [.int .u8 k] ∧ 0 ≤ k ∧ k ≤ 255) → ∃ l : List UInt8, l.length = n ∧ cs = l.map byteV
  | 0, cs, h, _ => ⟨[], rfl, by simpa using h⟩
  | n + 1, cs, h, hi => by
    cases cs with
    | nil => cases h
    | cons c cs =>
      obtain ⟨k, h1, h2, h3⟩ := hi 0 (Nat.succ_pos n)
      obtain ⟨l, q1, q2⟩ := bytes_of n cs (by simpa using h) (fun i hi' => by
        obtain ⟨k, h1, h2⟩ := hi (i + 1) (by omega)
        exact ⟨k, by simpa using h1, h2⟩)
      refine ⟨UInt8.ofNat k.toNat :: l, by simp [q1], ?_⟩
      simp only [List.drop_zero, List.take_succ_cons, List.take_zero, List.cons.injEq, and_true] at h1
      rw [h1, q2, List.map_cons]
      congr 1
      simp only [byteV, Value.int.injEq, true_and]
      have : (UInt8.ofNat k.toNat).toNat = k.toNat := by
        rw [UInt8.toNat_ofNat']
        omega
      rw [this]
      omega

theorem u55 : ∃ f0 f1 f2 : Field, Tryz.prog.underlying 55 = some (.struct #[f0, f1, f2]) ∧ f0.type = 4 ∧ f0.offset = 0 ∧ f1.type = 53 ∧ f1.offset = 1 ∧ f2.type = 3 ∧ f2.offset = 17 := ⟨_, _, _, Tryz.underlying55, rfl, rfl, rfl, rfl, rfl, rfl⟩
theorem u58 : ∃ f0 f1 f2 : Field, Tryz.prog.underlying 58 = some (.struct #[f0, f1, f2]) ∧ f0.type = 55 ∧ f0.offset = 0 ∧ f1.type = 3 ∧ f1.offset = 18 ∧ f2.type = 56 ∧ f2.offset = 19 := ⟨_, _, _, Tryz.underlying58, rfl, rfl, rfl, rfl, rfl, rfl⟩
theorem u60 : ∃ f0 f1 : Field, Tryz.prog.underlying 60 = some (.struct #[f0, f1]) ∧ f0.type = 3 ∧ f0.offset = 0 ∧ f1.type = 58 ∧ f1.offset = 1 := ⟨_, _, Tryz.underlying60, rfl, rfl, rfl, rfl⟩
theorem ut4 : Tryz.prog.underlying 4 = some .bool := by kernel_rfl
theorem ut3 : Tryz.prog.underlying 3 = some (.int .i64) := by kernel_rfl
theorem ut5 : Tryz.prog.underlying 5 = some (.int .u8) := by kernel_rfl
theorem ut56 : Tryz.prog.underlying 56 = some (.int .u32) := by kernel_rfl
theorem ut53 : Tryz.prog.underlying 53 = some (.array 16 5) := by kernel_rfl
theorem c4 : Tryz.prog.cellsOf 4 = 1 := by kernel_rfl
theorem c3 : Tryz.prog.cellsOf 3 = 1 := by kernel_rfl
theorem c5 : Tryz.prog.cellsOf 5 = 1 := by kernel_rfl
theorem c56 : Tryz.prog.cellsOf 56 = 1 := by kernel_rfl
theorem c53 : Tryz.prog.cellsOf 53 = 16 := by kernel_rfl
theorem c55 : Tryz.prog.cellsOf 55 = 18 := by kernel_rfl
theorem c58 : Tryz.prog.cellsOf 58 = 20 := by kernel_rfl
theorem c60 : Tryz.prog.cellsOf 60 = 21 := by kernel_rfl

theorem i64_wf {n : Int} (h : (Lit.int .i64 n).wf = true) : i64 n := by
  simp [Lit.wf, IntKind.min, IntKind.max, IntKind.signed, IntKind.bits] at h
  unfold i64; omega

theorem pre_of {n : Nat} {cs : List Value} {x : DataW H × List MemPlace} (h : DataW.trod enc Tryz.prog W 0 spare held n 55 cs = some x) : ∃ p : Pre, p.ok ∧ cs = p.cells := by
  obtain ⟨f0, f1, f2, hu, a0, b0, a1, b1, a2, b2⟩ := u55
  obtain ⟨y0, y1, y2, m, _, hl, h0, h1, h2⟩ := trod_struct3 hu h
  rw [a0, b0, c4] at h0
  rw [a1, b1, c53] at h1
  rw [a2, b2, c3] at h2
  rw [c55] at hl
  obtain ⟨six, g0, _⟩ := DataW.trod_bool ut4 h0
  obtain ⟨len, g2, _, w2⟩ := DataW.trod_int ut3 h2
  obtain ⟨xs, m1, _, _, hl1, _, hi⟩ := DataW.trod_array ut53 h1
  obtain ⟨l, q1, q2⟩ := bytes_of 16 ((cs.drop 1).take 16) (by simp; omega) (fun i hi' => by
    have h3 := hi i hi'
    rw [c5, Nat.mul_one] at h3
    cases hx : xs[i]? with
    | none => have := List.getElem?_eq_none_iff.1 hx; omega
    | some z =>
      rw [hx] at h3
      obtain ⟨k, g1, _, w1⟩ := DataW.trod_int ut5 h3
      refine ⟨k, g1, ?_⟩
      simp [Lit.wf, IntKind.min, IntKind.max, IntKind.signed, IntKind.bits] at w1
      omega)
  refine ⟨⟨six, l, len⟩, ⟨q1, i64_wf w2⟩, ?_⟩
  have : cs = (cs.drop 0).take 1 ++ ((cs.drop 1).take 16 ++ (cs.drop 17).take 1) := by
    rw [List.take_of_length_le (l := cs.drop 17) (by simp; omega)]
    have e1 : (cs.drop 1).drop 16 = cs.drop 17 := by rw [List.drop_drop]
    rw [← e1, List.take_append_drop, List.drop_zero, List.take_append_drop]
  rw [this, g0, q2, g2]
  rfl

theorem route_of {n : Nat} {cs : List Value} {x : DataW H × List MemPlace} (h : DataW.trod enc Tryz.prog W 0 spare held n 58 cs = some x) : ∃ r : Route, r.ok ∧ cs = r.cells := by
  obtain ⟨f0, f1, f2, hu, a0, b0, a1, b1, a2, b2⟩ := u58
  obtain ⟨y0, y1, y2, m, _, hl, h0, h1, h2⟩ := trod_struct3 hu h
  rw [a0, b0, c55] at h0
  rw [a1, b1, c3] at h1
  rw [a2, b2, c56] at h2
  rw [c58] at hl
  obtain ⟨p, hp, g0⟩ := pre_of h0
  obtain ⟨me, g1, _, w1⟩ := DataW.trod_int ut3 h1
  obtain ⟨sq, g2, _, w2⟩ := DataW.trod_int ut56 h2
  refine ⟨⟨p, me, sq⟩, ⟨hp, i64_wf w1, ?_⟩, ?_⟩
  · simp [Lit.wf, IntKind.min, IntKind.max, IntKind.signed, IntKind.bits] at w2
    show 0 ≤ sq ∧ sq ≤ 4294967295
    omega
  have : cs = (cs.drop 0).take 18 ++ ((cs.drop 18).take 1 ++ (cs.drop 19).take 1) := by
    rw [List.take_of_length_le (l := cs.drop 19) (by simp; omega)]
    have e1 : (cs.drop 18).drop 1 = cs.drop 19 := by rw [List.drop_drop]
    rw [← e1, List.take_append_drop, List.drop_zero, List.take_append_drop]
  rw [this, g0, g1, g2]
  rfl

theorem inc_of {n : Nat} {cs : List Value} {x : DataW H × List MemPlace} (h : DataW.trod enc Tryz.prog W 0 spare held n 60 cs = some x) : ∃ i : Inc, i.ok ∧ cs = i.cells := by
  obtain ⟨f0, f1, hu, a0, b0, a1, b1⟩ := u60
  obtain ⟨y0, y1, m, _, hl, h0, h1⟩ := ChangeShapes.trod_struct2 hu h
  rw [a0, b0, c3] at h0
  rw [a1, b1, c58] at h1
  rw [c60] at hl
  obtain ⟨k, g0, _, w0⟩ := DataW.trod_int ut3 h0
  obtain ⟨r, hr, g1⟩ := route_of h1
  refine ⟨⟨k, r⟩, ⟨i64_wf w0, hr⟩, ?_⟩
  have : cs = (cs.drop 0).take 1 ++ (cs.drop 1).take 20 := by
    rw [List.take_of_length_le (l := cs.drop 1) (by simp; omega), List.drop_zero, List.take_append_drop]
  rw [this, g0, g1]
  rfl

theorem route_elem {n : Nat} {cs : List Value} {x : DataW H × List MemPlace} (h : DataW.trod enc Tryz.prog W 0 spare held n 58 cs = some x) : Elem 20 (fun y => ∃ r : Route, r.ok ∧ y = r.av) cs := by
  obtain ⟨r, h1, h2⟩ := route_of h
  exact ⟨r.av, _, ⟨r, h1, rfl⟩, r.toV, by simp [Value.cells, h2], Route.leafs h1⟩
theorem inc_elem {n : Nat} {cs : List Value} {x : DataW H × List MemPlace} (h : DataW.trod enc Tryz.prog W 0 spare held n 60 cs = some x) : Elem 21 (fun y => ∃ i : Inc, i.ok ∧ y = i.av) cs := by
  obtain ⟨r, h1, h2⟩ := inc_of h
  exact ⟨r.av, _, ⟨r, h1, rfl⟩, r.toV, by simp [Value.cells, h2], Inc.leafs h1⟩
end

theorem all_of {α : Type} {g : α → Prop} {f : α → AV} : ∀ {l : List AV}, (∀ y ∈ l, ∃ i, g i ∧ y = f i) → ∃ is : List α, (∀ i ∈ is, g i) ∧ l = is.map f
  | [], _ => ⟨[], fun _ h => (by cases h), rfl⟩
  | y :: l, h => by
    obtain ⟨i, h1, rfl⟩ := h y (List.mem_cons_self ..)
    obtain ⟨is, h2, rfl⟩ := all_of fun y hy => h y (List.mem_cons_of_mem _ hy)
    exact ⟨i :: is, fun j hj => by
      rcases List.mem_cons.1 hj with rfl | hj
      · exact h1
      · exact h2 j hj, rfl⟩

end Go.Proofs.YtobdjegooonklaaGreat
