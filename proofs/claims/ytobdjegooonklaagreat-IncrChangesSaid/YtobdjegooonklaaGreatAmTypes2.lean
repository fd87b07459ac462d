/- Prefixes, routes and changes held against each other. Conditions: none. -/
import Derived.Test.YtobdjegooonklaaGreatAmTypes
import Derived.Test.YtobdjegooonklaaGreatAmEq
import Derived.Test.YtobdjegooonklaaGreatAmFacts
set_option linter.unusedVariables false
set_option linter.unusedSimpArgs false
namespace Go.Proofs.YtobdjegooonklaaGreat
open Go Go.AM Go.Deep

deriving instance DecidableEq for Pre, Route, Inc

theorem g53 : E.P.eqGuardType E.P.depth 53 = false := by kernel_rfl
theorem g55 : E.P.eqGuardType E.P.depth 55 = false := by kernel_rfl
theorem g58 : E.P.eqGuardType E.P.depth 58 = false := by kernel_rfl
theorem g60 : E.P.eqGuardType E.P.depth 60 = false := by kernel_rfl
theorem h55 : E.P.stoodInHeld 55 = false := by kernel_rfl
theorem h58 : E.P.stoodInHeld 58 = false := by kernel_rfl
theorem h60 : E.P.stoodInHeld 60 = false := by kernel_rfl
theorem so5 : prun E.P (sizeOf 5) = some 1 := by kernel_rfl
theorem so53 : prun E.P (sizeOf 53) = some 16 := by kernel_rfl
theorem so55 : prun E.P (sizeOf 55) = some 18 := by kernel_rfl
theorem so58 : prun E.P (sizeOf 58) = some 20 := by kernel_rfl
theorem ag3 : prun E.P (isAgg 3) = some false := by kernel_rfl
theorem ag4 : prun E.P (isAgg 4) = some false := by kernel_rfl
theorem ag5 : prun E.P (isAgg 5) = some false := by kernel_rfl
theorem ag56 : prun E.P (isAgg 56) = some false := by kernel_rfl
theorem ag53 : prun E.P (isAgg 53) = some true := by kernel_rfl
theorem ag55 : prun E.P (isAgg 55) = some true := by kernel_rfl
theorem ag58 : prun E.P (isAgg 58) = some true := by kernel_rfl

theorem v3 : E.P.underlying 3 = some (.int .i64) := ut3
theorem v4 : E.P.underlying 4 = some .bool := ut4
theorem v5 : E.P.underlying 5 = some (.int .u8) := ut5
theorem v53 : E.P.underlying 53 = some (.array 16 5) := ut53
theorem v56 : E.P.underlying 56 = some (.int .u32) := ut56
theorem bytes_toV (l : List UInt8) : AM.toV (.agg (ofBytes l)) = some (.agg (l.map byteV).toArray) := by
  simp [AM.toV, toVs_bytes, Value.cells, byteV]

theorem eqn53 (d : Nat) (a b : List UInt8) (ha : a.length = 16) (hb : b.length = 16) : prun E.P (Op.equalIn (d + 2) 53 (.agg (a.map byteV).toArray) (.agg (b.map byteV).toArray)) = some (a == b) := by
  rw [prun_array (d + 1) (k := 1) _ _ v53 so5]
  have := prun_bytes (P := E.P) d v5 ag5 16 0 a b (by omega) (by omega)
  rw [List.range_eq_range']
  exact this

theorem pre_extract {p : Pre} (h : p.ok) : p.cells.toArray.extract 1 17 = (p.ad.map byteV).toArray := by
  have := h.1
  simp [Pre.cells, List.take_append, this]
theorem eqn55 (d : Nat) (p q : Pre) (hp : p.ok) (hq : q.ok) : prun E.P (Op.equalIn (d + 3) 55 (.agg p.cells.toArray) (.agg q.cells.toArray)) = some (decide (p = q)) := by
  have hu : E.P.underlying 55 = Tryz.prog.underlying 55 := rfl
  rw [prun_struct (d + 2) 55 _ _ (hu.trans Tryz.underlying55) h55]
  have p17 : p.cells.toArray[17]? = some (.int .i64 p.len) := by
    have := hp.1
    simp [Pre.cells, List.getElem?_append_right, this]
  have q17 : q.cells.toArray[17]? = some (.int .i64 q.len) := by
    have := hq.1
    simp [Pre.cells, List.getElem?_append_right, this]
  have l1 : prun E.P (part 4 p.cells.toArray 0) = some (.bool p.six) := prun_part_one ag4 _ _ _ rfl
  have l2 : prun E.P (part 4 q.cells.toArray 0) = some (.bool q.six) := prun_part_one ag4 _ _ _ rfl
  have l3 : prun E.P (part 53 p.cells.toArray 1) = some (.agg (p.ad.map byteV).toArray) := by rw [prun_part_agg ag53 so53, pre_extract hp]
  have l4 : prun E.P (part 53 q.cells.toArray 1) = some (.agg (q.ad.map byteV).toArray) := by rw [prun_part_agg ag53 so53, pre_extract hq]
  have l5 := prun_part_one ag3 _ _ _ p17
  have l6 := prun_part_one ag3 _ _ _ q17
  simp only [Op.eqFields, prun_bind, l1, l2, l3, l4, l5, l6, prun_eq_bool (d + 1) v4, eqn53 d _ _ hp.1 hq.1, prun_eq_int (d + 1) v3, prun_ite, ne_eq, String.reduceEq, not_false_eq_true, if_true]
  obtain ⟨s1, a1, n1⟩ := p
  obtain ⟨s2, a2, n2⟩ := q
  by_cases h1 : s1 = s2 <;> by_cases h2 : a1 = a2 <;> by_cases h3 : n1 = n2 <;> simp [h1, h2, h3, prun_pure]

theorem route_extract {r : Route} (h : r.ok) : r.cells.toArray.extract 0 18 = r.to.cells.toArray := by
  have := h.1.1
  have hl : r.to.cells.length = 18 := by simp [Pre.cells, this]
  simp [Route.cells, List.take_append, hl]
theorem eqn58 (d : Nat) (p q : Route) (hp : p.ok) (hq : q.ok) : prun E.P (Op.equalIn (d + 4) 58 (.agg p.cells.toArray) (.agg q.cells.toArray)) = some (decide (p = q)) := by
  have hu : E.P.underlying 58 = Tryz.prog.underlying 58 := rfl
  rw [prun_struct (d + 3) 58 _ _ (hu.trans Tryz.underlying58) h58]
  have hl : p.to.cells.length = 18 := by simp [Pre.cells, hp.1.1]
  have hl2 : q.to.cells.length = 18 := by simp [Pre.cells, hq.1.1]
  have p18 : p.cells.toArray[18]? = some (.int .i64 p.metric) := by simp [Route.cells, List.getElem?_append_right, hl]
  have q18 : q.cells.toArray[18]? = some (.int .i64 q.metric) := by simp [Route.cells, List.getElem?_append_right, hl2]
  have p19 : p.cells.toArray[19]? = some (.int .u32 p.seq) := by simp [Route.cells, List.getElem?_append_right, hl]
  have q19 : q.cells.toArray[19]? = some (.int .u32 q.seq) := by simp [Route.cells, List.getElem?_append_right, hl2]
  have l3 : prun E.P (part 55 p.cells.toArray 0) = some (.agg p.to.cells.toArray) := by rw [prun_part_agg ag55 so55, Nat.zero_add, route_extract hp]
  have l4 : prun E.P (part 55 q.cells.toArray 0) = some (.agg q.to.cells.toArray) := by rw [prun_part_agg ag55 so55, Nat.zero_add, route_extract hq]
  have l5 := prun_part_one ag3 _ _ _ p18
  have l6 := prun_part_one ag3 _ _ _ q18
  have l7 := prun_part_one ag56 _ _ _ p19
  have l8 := prun_part_one ag56 _ _ _ q19
  simp only [Op.eqFields, prun_bind, l3, l4, l5, l6, l7, l8, eqn55 d _ _ hp.1 hq.1, prun_eq_int (d + 2) v3, prun_eq_int (d + 2) v56, prun_ite, ne_eq, String.reduceEq, not_false_eq_true, if_true]
  obtain ⟨s1, a1, n1⟩ := p
  obtain ⟨s2, a2, n2⟩ := q
  by_cases h1 : s1 = s2 <;> by_cases h2 : a1 = a2 <;> by_cases h3 : n1 = n2 <;> simp [h1, h2, h3, prun_pure]

theorem inc_extract {i : Inc} (h : i.ok) : i.cells.toArray.extract 1 21 = i.r.cells.toArray := by
  have hl : i.r.cells.length = 20 := by simp [Route.cells, Pre.cells, h.2.1.1]
  have : i.r.cells.take 20 = i.r.cells := List.take_of_length_le (by omega)
  simp [Inc.cells, this]
theorem eqn60 (d : Nat) (p q : Inc) (hp : p.ok) (hq : q.ok) : prun E.P (Op.equalIn (d + 5) 60 (.agg p.cells.toArray) (.agg q.cells.toArray)) = some (decide (p = q)) := by
  have hu : E.P.underlying 60 = Tryz.prog.underlying 60 := rfl
  rw [prun_struct (d + 4) 60 _ _ (hu.trans Tryz.underlying60) h60]
  have l1 : prun E.P (part 3 p.cells.toArray 0) = some (.int .i64 p.kind) := prun_part_one ag3 _ _ _ rfl
  have l2 : prun E.P (part 3 q.cells.toArray 0) = some (.int .i64 q.kind) := prun_part_one ag3 _ _ _ rfl
  have l3 : prun E.P (part 58 p.cells.toArray 1) = some (.agg p.r.cells.toArray) := by rw [prun_part_agg ag58 so58, inc_extract hp]
  have l4 : prun E.P (part 58 q.cells.toArray 1) = some (.agg q.r.cells.toArray) := by rw [prun_part_agg ag58 so58, inc_extract hq]
  simp only [Op.eqFields, prun_bind, l1, l2, l3, l4, eqn58 d _ _ hp.2 hq.2, prun_eq_int (d + 3) v3, prun_ite, ne_eq, String.reduceEq, not_false_eq_true, if_true]
  obtain ⟨s1, a1⟩ := p
  obtain ⟨s2, a2⟩ := q
  by_cases h1 : s1 = s2 <;> by_cases h2 : a1 = a2 <;> simp [h1, h2, prun_pure]

theorem eq53 {ox oy : Operand} {a b : List UInt8} (ha : a.length = 16) (hb : b.length = 16) : binE E.P .eql 53 ox oy (.agg (ofBytes a)) (.agg (ofBytes b)) = some (.v (.bool (a == b))) := bin_eq_agg (bytes_toV a) (bytes_toV b) g53 (eqn53 9998 a b ha hb)
theorem eq55 {ox oy : Operand} {p q : Pre} (hp : p.ok) (hq : q.ok) : binE E.P .eql 55 ox oy p.av q.av = some (.v (.bool (decide (p = q)))) := bin_eq_agg p.toV q.toV g55 (eqn55 9997 p q hp hq)
theorem ne55 {ox oy : Operand} {p q : Pre} (hp : p.ok) (hq : q.ok) : binE E.P .neq 55 ox oy p.av q.av = some (.v (.bool !(decide (p = q)))) := bin_ne_agg p.toV q.toV g55 (eqn55 9997 p q hp hq)
theorem eq58 {ox oy : Operand} {p q : Route} (hp : p.ok) (hq : q.ok) : binE E.P .eql 58 ox oy p.av q.av = some (.v (.bool (decide (p = q)))) := bin_eq_agg p.toV q.toV g58 (eqn58 9996 p q hp hq)
theorem ne58 {ox oy : Operand} {p q : Route} (hp : p.ok) (hq : q.ok) : binE E.P .neq 58 ox oy p.av q.av = some (.v (.bool !(decide (p = q)))) := bin_ne_agg p.toV q.toV g58 (eqn58 9996 p q hp hq)
theorem eq60 {ox oy : Operand} {p q : Inc} (hp : p.ok) (hq : q.ok) : binE E.P .eql 60 ox oy p.av q.av = some (.v (.bool (decide (p = q)))) := bin_eq_agg p.toV q.toV g60 (eqn60 9995 p q hp hq)
theorem ne60 {ox oy : Operand} {p q : Inc} (hp : p.ok) (hq : q.ok) : binE E.P .neq 60 ox oy p.av q.av = some (.v (.bool !(decide (p = q)))) := bin_ne_agg p.toV q.toV g60 (eqn60 9995 p q hp hq)

end Go.Proofs.YtobdjegooonklaaGreat
