/- What a writer of bytes does. Conditions: none. -/
import Derived.Test.YtobdjegooonklaaGreatAmFacts
set_option linter.unusedSimpArgs false
set_option linter.unusedVariables false
namespace Go.Proofs.YtobdjegooonklaaGreat
open Go Go.AM

abbrev nilP : AV := .v (.pointer none)
def bld (addr buf : AV) : Row := .row 2 0 [.agg [.agg [addr, buf]]] ⟨true, 69⟩
abbrev selfP (id : Nat) : AV := .ptr id 0 0 [0] 0

theorem c116 (n : Nat) (x : AV) (h : Heap) : call E (n + 500) 116 [x] h = some (x, h, ⟨[], [], true⟩) := rfl
theorem lies_69 : liesAt Tryz.prog Tryz.prog.depth 69 1 0 67 1 = true := by kernel_rfl
theorem cells_69 : E.P.cellsOf 69 = 2 := by kernel_rfl
theorem und_64' : E.P.underlying 64 = some (.pointer 67) := by kernel_rfl
theorem und_172' : E.P.underlying 172 = some .unsafePointer := by kernel_rfl
theorem sz_67' : szOf E.P 67 = some 2 := by kernel_rfl
theorem cv_64 {h : Heap} {id : Nat} {x : AV} (hid : h[id]? = some (.row 2 0 [x] ⟨true, 69⟩)) : convE E.P h 64 172 (selfP id) = some (selfP id, h, none) := by
  simp [convE, und_64', und_172', toV, convPtr, placeE, hid, bltE, bleE, beqE, cells_69, sz_67']
theorem cv_172 {h : Heap} {id : Nat} {x : AV} (hid : h[id]? = some (.row 2 0 [x] ⟨true, 69⟩)) : convE E.P h 172 64 (selfP id) = some (selfP id, h, none) := by
  have l : liesAt E.P E.P.depth 69 1 0 67 1 = true := lies_69
  simp [convE, und_64', und_172', toV, convPtr, placeE, hid, bltE, bleE, beqE, cells_69, sz_67', l]

theorem c100a (n : Nat) (h : Heap) (id : Nat) (buf : AV) (hid : h[id]? = some (bld (selfP id) buf)) (hb : leafs buf = 1) : call E (n + 501) 100 [selfP id] h = some (.tup [], h, ⟨[], [], true⟩) := by
  have hid' : h[id]? = some (.row 2 0 [.agg [.agg [.ptr id 0 0 [0] 0, buf]]] ⟨true, 69⟩) := hid
  rw [call_at (E := E) (f := 100) (fn := Tryz.f100) rfl Tryz.func100 rfl (Nat.le_of_ble_eq_true rfl)]
  simp -implicitDefEqProofs only [simA, Nat.reduceAdd, Nat.reduceLT, Nat.reduceEqDiff, Nat.reduceLeDiff, Nat.reduceMul, Int.reduceBEq, Int.reduceBNe, Int.reduceLT, Int.reduceLE, Int.reduceAdd, Int.reduceSub, Int.reduceMul, Int.reduceNeg, Nat.reduceSub, Nat.reducePow, Nat.reduceDiv, Nat.reduceMod, fo_67_0, sz_64, agg_64, pe_64, pn_64, ps_64, pz_64, py_64, keep_100, E_masks, masks, rows_100, Tryz.f100, hid', hb]
theorem c100b (n : Nat) (h : Heap) (id : Nat) (buf : AV) (hid : h[id]? = some (bld nilP buf)) (hb : leafs buf = 1) : call E (n + 501) 100 [selfP id] h = some (.tup [], h.set id (bld (selfP id) buf), ⟨[id], [id], false⟩) := by
  have hid' : h[id]? = some (.row 2 0 [.agg [.agg [nilP, buf]]] ⟨true, 69⟩) := hid
  have hlt : id < h.length := (List.getElem?_eq_some_iff.1 hid).1
  rw [call_at (E := E) (f := 100) (fn := Tryz.f100) rfl Tryz.func100 rfl (Nat.le_of_ble_eq_true rfl)]
  simp -implicitDefEqProofs only [simA, Nat.reduceAdd, Nat.reduceLT, Nat.reduceEqDiff, Nat.reduceLeDiff, Nat.reduceMul, Int.reduceBEq, Int.reduceBNe, Int.reduceLT, Int.reduceLE, Int.reduceAdd, Int.reduceSub, Int.reduceMul, Int.reduceNeg, Nat.reduceSub, Nat.reducePow, Nat.reduceDiv, Nat.reduceMod, fo_67_0, sz_64, agg_64, pe_64, pn_64, ps_64, pz_64, py_64, keep_100, E_masks, masks, rows_100, Tryz.f100, hid', hb, cv_64 hid', cv_172 hid', c116, hlt, storeE, bld]

/-- A writer's bytes: its rows lie at or behind B. -/
def WR (B : Nat) (h : Heap) (id : Nat) (bs : List UInt8) : Prop := B ≤ id ∧ ∃ addr buf, h[id]? = some (bld addr buf) ∧ ((bs = [] ∧ buf = nilS ∧ (addr = nilP ∨ addr = selfP id)) ∨
  (addr = selfP id ∧ ∃ bid gen tag, buf = .sl bid gen 0 bs.length ∧ h[bid]? = some (.row 1 gen (ofBytes bs) tag) ∧ tag.ty = 5 ∧ bid ≠ id ∧ B ≤ bid ∧ bs ≠ []))

structure Wrote (B : Nat) (h h' : Heap) (id : Nat) (ds ls : List Nat) : Prop where
  len : h.length ≤ h'.length
  old : ∀ j, j < B → h'[j]? = h[j]?
  keep : ∀ j k g els tag, h[j]? = some (.row k g els tag) → k ≠ 1 → j ≠ id → h'[j]? = h[j]?
  dge : ∀ i ∈ ds, B ≤ i
  how : ls = [id] ∨ (ls = [] ∧ ds = [id] ∧ h'.length = h.length)

theorem set_get {h : Heap} {id : Nat} {r : Row} (hlt : id < h.length) : (h.set id r)[id]? = some r := by simp [hlt]
theorem set_take {h : Heap} {id : Nat} {r : Row} : (h.set id r).take h.length = h.set id r := List.take_of_length_le (by simp)
theorem set_app {h l : Heap} {id : Nat} {r : Row} (hlt : id < h.length) : (h ++ l).set id r = h.set id r ++ l := List.set_append_left _ _ hlt
theorem app_get {h l : Heap} {id : Nat} (hlt : id < h.length) : (h ++ l)[id]? = h[id]? := List.getElem?_append_left hlt

theorem post_new {B : Nat} {h : Heap} {id : Nat} {cs : List UInt8} {ds ls : List Nat} (hcs : cs ≠ []) (hB : B ≤ id) (hlt : id < h.length) (hds : ∀ i ∈ ds, i = id) (hls : ls = [id]) :
    WR B (h.set id (bld (selfP id) (.sl h.length 0 0 cs.length)) ++ [.row 1 0 (ofBytes cs) ⟨false, 5⟩]) id cs ∧ Wrote B h (h.set id (bld (selfP id) (.sl h.length 0 0 cs.length)) ++ [.row 1 0 (ofBytes cs) ⟨false, 5⟩]) id ds ls := by
  have hl : (h.set id (bld (selfP id) (.sl h.length 0 0 cs.length))).length = h.length := by simp
  refine ⟨⟨hB, _, _, by rw [app_get (by rw [hl]; exact hlt), set_get hlt], .inr ⟨rfl, h.length, 0, ⟨false, 5⟩, rfl, ?_, rfl, by omega, by omega, hcs⟩⟩, ⟨by simp, fun j hj => ?_, fun j k g els tag hj hk hne => ?_, fun i hi => by rw [hds i hi]; exact hB, .inl hls⟩⟩
  · rw [List.getElem?_append_right (by simp)]; simp
  · rw [app_get (by rw [hl]; omega), List.getElem?_set_ne (by omega)]
  · have := (List.getElem?_eq_some_iff.1 hj).1
    rw [app_get (by rw [hl]; omega), List.getElem?_set_ne (by omega)]

theorem post_more {B : Nat} {h : Heap} {id bid gen : Nat} {bs cs : List UInt8} {tag : Tag} {ds ls : List Nat} (hB : B ≤ id) (hBb : B ≤ bid) (hbs : bs ≠ []) (hlt : id < h.length) (hb : h[bid]? = some (.row 1 gen (ofBytes bs) tag)) (hne : bid ≠ id) {gen' n : Nat} {r : Row} {tag' : Tag} (ht : tag'.ty = 5) (hr : r = .row 1 gen' (ofBytes (bs ++ cs)) tag') (hn : n = (bs ++ cs).length) (hds : ∀ i ∈ ds, i = id ∨ i = bid) (hls : ls = [id]) :
    WR B ((h.set bid r).set id (bld (selfP id) (.sl bid gen' 0 n))) id (bs ++ cs) ∧ Wrote B h ((h.set bid r).set id (bld (selfP id) (.sl bid gen' 0 n))) id ds ls := by
  subst hr; subst hn
  have hbl : bid < h.length := (List.getElem?_eq_some_iff.1 hb).1
  refine ⟨⟨hB, _, _, set_get (by simpa using hlt), .inr ⟨rfl, bid, gen', tag', rfl, ?_, ht, hne, hBb, by simp [hbs]⟩⟩, ⟨by simp, fun j hj => ?_, fun j k g els tag' hj hk hne' => ?_, fun i hi => ?_, .inl hls⟩⟩
  · rw [List.getElem?_set_ne (by omega), set_get hbl]
  · rw [List.getElem?_set_ne (by omega), List.getElem?_set_ne (by omega)]
  · have : j ≠ bid := fun e => by subst e; rw [hb] at hj; injection hj with hj; injection hj with hj; omega
    rw [List.getElem?_set_ne (by omega), List.getElem?_set_ne (by omega)]
  · rcases hds i hi with rfl | rfl <;> assumption

theorem c66 (n B : Nat) (h : Heap) (id : Nat) (bs : List UInt8) (b : UInt8) (w : WR B h id bs) (hl : bs.length < 100000000) : ∃ h' ds ls, call E (n + 502) 66 [selfP id, .v (.int .u8 b.toNat)] h = some (.v .nilIface, h', ⟨ds, ls, false⟩) ∧ ls = [id] ∧ WR B h' id (bs ++ [b]) ∧ Wrote B h h' id ds ls := by
  obtain ⟨hB, addr, buf, hid, ⟨rfl, rfl, rfl | rfl⟩ | ⟨rfl, bid, gen, tag, rfl, hb, ht, hne, hBb, hbs⟩⟩ := w
  · have hlt : id < h.length := (List.getElem?_eq_some_iff.1 hid).1
    rw [call_at (E := E) (f := 66) (fn := Tryz.f66) rfl Tryz.func66 rfl (Nat.le_of_ble_eq_true rfl)]
    simp -implicitDefEqProofs only [simA, Nat.reduceAdd, Nat.reduceLT, Nat.reduceEqDiff, Nat.reduceLeDiff, Nat.reduceMul, Int.reduceBEq, Int.reduceBNe, Int.reduceLT, Int.reduceLE, Int.reduceAdd, Int.reduceSub, Int.reduceMul, Int.reduceNeg, Nat.reduceSub, Nat.reducePow, Nat.reduceDiv, Nat.reduceMod, fo_67_1, sz_65, agg_65, bs_65_1_66, ap_65_65, src_65, keep_66, E_masks, masks, rows_66, Tryz.f66, c100b _ _ _ _ hid rfl, hlt, storeE, bld, set_get hlt, set_app, app_get, List.set_set]
    exact ⟨_, _, _, rfl, rfl, post_new (cs := [b]) (by simp) hB hlt (by simp) rfl⟩
  · have hlt : id < h.length := (List.getElem?_eq_some_iff.1 hid).1
    have hid' : h[id]? = some (.row 2 0 [.agg [.agg [.ptr id 0 0 [0] 0, nilS]]] ⟨true, 69⟩) := hid
    rw [call_at (E := E) (f := 66) (fn := Tryz.f66) rfl Tryz.func66 rfl (Nat.le_of_ble_eq_true rfl)]
    simp -implicitDefEqProofs only [simA, Nat.reduceAdd, Nat.reduceLT, Nat.reduceEqDiff, Nat.reduceLeDiff, Nat.reduceMul, Int.reduceBEq, Int.reduceBNe, Int.reduceLT, Int.reduceLE, Int.reduceAdd, Int.reduceSub, Int.reduceMul, Int.reduceNeg, Nat.reduceSub, Nat.reducePow, Nat.reduceDiv, Nat.reduceMod, fo_67_1, sz_65, agg_65, bs_65_1_66, ap_65_65, src_65, keep_66, E_masks, masks, rows_66, Tryz.f66, c100a _ _ _ _ hid rfl, hlt, storeE, set_get hlt, set_app, app_get, List.set_set, hid']
    exact ⟨_, _, _, rfl, rfl, post_new (cs := [b]) (by simp) hB hlt (by simp) rfl⟩
  · have hlt : id < h.length := (List.getElem?_eq_some_iff.1 hid).1
    have hid' : h[id]? = some (.row 2 0 [.agg [.agg [.ptr id 0 0 [0] 0, .sl bid gen 0 bs.length]]] ⟨true, 69⟩) := hid
    have hid2 : ∀ r, (h.set bid r)[id]? = some (.row 2 0 [.agg [.agg [.ptr id 0 0 [0] 0, .sl bid gen 0 bs.length]]] ⟨true, 69⟩) := fun r => by rw [List.getElem?_set_ne hne]; exact hid
    have hap := app_new (h := h) (len := bs.length) (e := 5) (xs := [.v (.int .u8 b.toNat)]) hb ht (by simp [ofBytes]) (by simp)
    have hbig : (bs.length + 1) * 1 ≤ 140737488355328 := by omega
    rw [call_at (E := E) (f := 66) (fn := Tryz.f66) rfl Tryz.func66 rfl (Nat.le_of_ble_eq_true rfl)]
    simp -implicitDefEqProofs only [simA, Nat.reduceAdd, Nat.reduceLT, Nat.reduceEqDiff, Nat.reduceLeDiff, Nat.reduceMul, Int.reduceBEq, Int.reduceBNe, Int.reduceLT, Int.reduceLE, Int.reduceAdd, Int.reduceSub, Int.reduceMul, Int.reduceNeg, Nat.reduceSub, Nat.reducePow, Nat.reduceDiv, Nat.reduceMod, fo_67_1, sz_65, agg_65, bs_65_1_66, ap_65_65, src_65, keep_66, E_masks, masks, rows_66, Tryz.f66, c100a _ _ _ _ hid rfl, hlt, storeE, hid', hid2, hap, hbig]
    exact ⟨_, _, _, rfl, rfl, post_more (cs := [b]) (tag' := ⟨false, 5⟩) hB hBb hbs hlt hb hne rfl (by simp [ofBytes]) (by simp) (fun i hi => by
      rcases ins_mem hi with hi | hi
      · exact .inl hi
      · split at hi <;> simp_all) rfl⟩

theorem post_zero {B : Nat} {h : Heap} {id : Nat} {ds ls : List Nat} (hB : B ≤ id) (hlt : id < h.length) (hds : ds = [id]) (hls : ls = [id] ∨ ls = []) :
    WR B (h.set id (bld (selfP id) nilS)) id [] ∧ Wrote B h (h.set id (bld (selfP id) nilS)) id ds ls := by
  refine ⟨⟨hB, _, _, set_get hlt, .inl ⟨rfl, rfl, .inr rfl⟩⟩, ⟨by simp, fun j hj => ?_, fun j k g els tag hj hk hne => ?_, fun i hi => by rw [hds] at hi; rw [List.mem_singleton.1 hi]; exact hB, hls.imp (fun h => h) fun h => ⟨h, hds, by simp⟩⟩⟩
  · rw [List.getElem?_set_ne (by omega)]
  · rw [List.getElem?_set_ne (by omega)]

theorem c67 (n B : Nat) (h : Heap) (id : Nat) (bs cs : List UInt8) (w : WR B h id bs) (hl : bs.length + cs.length < 100000000) : ∃ h' ds ls e, call E (n + 502) 67 [selfP id, .v (.string (strB cs))] h = some (e, h', ⟨ds, ls, false⟩) ∧ WR B h' id (bs ++ cs) ∧ Wrote B h h' id ds ls := by
  have hbig : (bs.length + cs.length) * 1 ≤ 140737488355328 := by omega
  obtain ⟨hB, addr, buf, hid, ⟨rfl, rfl, rfl | rfl⟩ | ⟨rfl, bid, gen, tag, rfl, hb, ht, hne, hBb, hbs⟩⟩ := w
  · have hlt : id < h.length := (List.getElem?_eq_some_iff.1 hid).1
    rw [call_at (E := E) (f := 67) (fn := Tryz.f67) rfl Tryz.func67 rfl (Nat.le_of_ble_eq_true rfl)]
    cases cs with
    | nil =>
      simp -implicitDefEqProofs only [simA, Nat.reduceAdd, Nat.reduceLT, Nat.reduceEqDiff, Nat.reduceLeDiff, Nat.reduceMul, Int.reduceBEq, Int.reduceBNe, Int.reduceLT, Int.reduceLE, Int.reduceAdd, Int.reduceSub, Int.reduceMul, Int.reduceNeg, Nat.reduceSub, Nat.reducePow, Nat.reduceDiv, Nat.reduceMod, fo_67_1, sz_65, agg_65, ap_65_9, src_9, ln_9, keep_67, E_masks, masks, rows_67, Tryz.f67, c100b _ _ _ _ hid rfl, hlt, storeE, bld, set_get hlt, set_app, app_get, List.set_set, strB_data, strB_size, ofBytes_nil]
      exact ⟨_, _, _, _, rfl, post_zero hB hlt rfl (by simp)⟩
    | cons c cs =>
      simp only [List.length_cons, List.length_nil, Nat.zero_add] at hbig
      simp -implicitDefEqProofs only [simA, Nat.reduceAdd, Nat.reduceLT, Nat.reduceEqDiff, Nat.reduceLeDiff, Nat.reduceMul, Int.reduceBEq, Int.reduceBNe, Int.reduceLT, Int.reduceLE, Int.reduceAdd, Int.reduceSub, Int.reduceMul, Int.reduceNeg, Nat.reduceSub, Nat.reducePow, Nat.reduceDiv, Nat.reduceMod, fo_67_1, sz_65, agg_65, ap_65_9, src_9, ln_9, keep_67, E_masks, masks, rows_67, Tryz.f67, c100b _ _ _ _ hid rfl, hlt, storeE, bld, set_get hlt, set_app, app_get, List.set_set, strB_data, strB_size, ofBytes_cons, ofBytes_len, hbig, Nat.zero_add]
      exact ⟨_, _, _, _, rfl, post_new (cs := c :: cs) (by simp) hB hlt (by simp) rfl⟩
  · have hlt : id < h.length := (List.getElem?_eq_some_iff.1 hid).1
    have hid' : h[id]? = some (.row 2 0 [.agg [.agg [.ptr id 0 0 [0] 0, nilS]]] ⟨true, 69⟩) := hid
    rw [call_at (E := E) (f := 67) (fn := Tryz.f67) rfl Tryz.func67 rfl (Nat.le_of_ble_eq_true rfl)]
    cases cs with
    | nil =>
      simp -implicitDefEqProofs only [simA, Nat.reduceAdd, Nat.reduceLT, Nat.reduceEqDiff, Nat.reduceLeDiff, Nat.reduceMul, Int.reduceBEq, Int.reduceBNe, Int.reduceLT, Int.reduceLE, Int.reduceAdd, Int.reduceSub, Int.reduceMul, Int.reduceNeg, Nat.reduceSub, Nat.reducePow, Nat.reduceDiv, Nat.reduceMod, fo_67_1, sz_65, agg_65, ap_65_9, src_9, ln_9, keep_67, E_masks, masks, rows_67, Tryz.f67, c100a _ _ _ _ hid rfl, hlt, storeE, set_get hlt, set_app, app_get, List.set_set, hid', strB_data, strB_size, ofBytes_nil, set_take]
      exact ⟨_, _, _, _, rfl, post_zero hB hlt rfl (by simp)⟩
    | cons c cs =>
      simp only [List.length_cons, List.length_nil, Nat.zero_add] at hbig
      simp -implicitDefEqProofs only [simA, Nat.reduceAdd, Nat.reduceLT, Nat.reduceEqDiff, Nat.reduceLeDiff, Nat.reduceMul, Int.reduceBEq, Int.reduceBNe, Int.reduceLT, Int.reduceLE, Int.reduceAdd, Int.reduceSub, Int.reduceMul, Int.reduceNeg, Nat.reduceSub, Nat.reducePow, Nat.reduceDiv, Nat.reduceMod, fo_67_1, sz_65, agg_65, ap_65_9, src_9, ln_9, keep_67, E_masks, masks, rows_67, Tryz.f67, c100a _ _ _ _ hid rfl, hlt, storeE, set_get hlt, set_app, app_get, List.set_set, hid', strB_data, strB_size, ofBytes_cons, ofBytes_len, hbig, Nat.zero_add]
      exact ⟨_, _, _, _, rfl, post_new (cs := c :: cs) (by simp) hB hlt (by simp) rfl⟩
  · have hlt : id < h.length := (List.getElem?_eq_some_iff.1 hid).1
    have hid' : h[id]? = some (.row 2 0 [.agg [.agg [.ptr id 0 0 [0] 0, .sl bid gen 0 bs.length]]] ⟨true, 69⟩) := hid
    have hid2 : ∀ r, (h.set bid r)[id]? = some (.row 2 0 [.agg [.agg [.ptr id 0 0 [0] 0, .sl bid gen 0 bs.length]]] ⟨true, 69⟩) := fun r => by rw [List.getElem?_set_ne hne]; exact hid
    rw [call_at (E := E) (f := 67) (fn := Tryz.f67) rfl Tryz.func67 rfl (Nat.le_of_ble_eq_true rfl)]
    cases cs with
    | nil =>
      have hap := app_none (h := h) (len := bs.length) (e := 5) hb (by simp [ofBytes])
      simp only [List.length_nil, Nat.add_zero] at hbig
      simp -implicitDefEqProofs only [simA, Nat.reduceAdd, Nat.reduceLT, Nat.reduceEqDiff, Nat.reduceLeDiff, Nat.reduceMul, Int.reduceBEq, Int.reduceBNe, Int.reduceLT, Int.reduceLE, Int.reduceAdd, Int.reduceSub, Int.reduceMul, Int.reduceNeg, Nat.reduceSub, Nat.reducePow, Nat.reduceDiv, Nat.reduceMod, fo_67_1, sz_65, agg_65, ap_65_9, src_9, ln_9, keep_67, E_masks, masks, rows_67, Tryz.f67, c100a _ _ _ _ hid rfl, hlt, storeE, hid', hid2, hap, hbig, strB_data, strB_size, ofBytes_nil, Nat.add_zero]
      exact ⟨_, _, _, _, rfl, post_more (cs := []) hB hBb hbs hlt hb hne ht (by simp) (by simp) (fun i hi => by
        rcases ins_mem hi with hi | hi
        · exact .inl hi
        · split at hi <;> simp_all) rfl⟩
    | cons c cs =>
      have hap := app_new (h := h) (len := bs.length) (e := 5) (xs := ofBytes (c :: cs)) hb ht (by simp [ofBytes]) (by simp [ofBytes])
      rw [← ofBytes_append] at hap
      simp only [Zfu, ofBytes_len] at hap
      simp only [List.length_cons] at hbig
      simp -implicitDefEqProofs only [simA, Nat.reduceAdd, Nat.reduceLT, Nat.reduceEqDiff, Nat.reduceLeDiff, Nat.reduceMul, Int.reduceBEq, Int.reduceBNe, Int.reduceLT, Int.reduceLE, Int.reduceAdd, Int.reduceSub, Int.reduceMul, Int.reduceNeg, Nat.reduceSub, Nat.reducePow, Nat.reduceDiv, Nat.reduceMod, fo_67_1, sz_65, agg_65, ap_65_9, src_9, ln_9, keep_67, E_masks, masks, rows_67, Tryz.f67, c100a _ _ _ _ hid rfl, hlt, storeE, hid', hid2, hap, hbig, strB_data, strB_size, ofBytes_len]
      exact ⟨_, _, _, _, rfl, post_more (cs := c :: cs) (tag' := ⟨false, 5⟩) hB hBb hbs hlt hb hne rfl rfl (by simp) (fun i hi => by
        rcases ins_mem hi with hi | hi
        · exact .inl hi
        · split at hi <;> simp_all) rfl⟩

structure Kept (B : Nat) (h h' : Heap) (id : Nat) (ds : List Nat) : Prop where
  len : h.length ≤ h'.length
  old : ∀ j, j < B → h'[j]? = h[j]?
  keep : ∀ (j k g : Nat) els tag, h[j]? = some (Row.row k g els tag) → k ≠ 1 → h'[j]? = h[j]?
  dge : ∀ i ∈ ds, B ≤ i

theorem cells_5 : E.P.cellsOf 5 = 1 := by kernel_rfl
theorem und_159' : E.P.underlying 159 = some (.pointer 5) := by kernel_rfl

theorem c70 (n B : Nat) (h : Heap) (id : Nat) (bs : List UInt8) (w : WR B h id bs) : ∃ h' ds q, call E (n + 500) 70 [selfP id] h = some (.v (.string (strB bs)), h', ⟨ds, [], q⟩) ∧ Kept B h h' id ds := by
  have hs : ∀ addr buf, h[id]? = some (bld addr buf) → leafs addr = 1 → leafs buf = 1 → h[id]? = some (.row 2 0 [.agg [.agg [addr, buf]]] ⟨true, 69⟩) := fun _ _ h _ _ => h
  obtain ⟨hB, addr, buf, hid, ⟨rfl, rfl, ha⟩ | ⟨rfl, bid, gen, tag, rfl, hb, ht, hne, hBb, hbs⟩⟩ := w
  · have hid' : h[id]? = some (.row 2 0 [.agg [.agg [addr, nilS]]] ⟨true, 69⟩) := hid
    have hl : leafs addr = 1 := by rcases ha with rfl | rfl <;> rfl
    rw [call_at (E := E) (f := 70) (fn := Tryz.f70) rfl Tryz.func70 rfl (Nat.le_of_ble_eq_true rfl)]
    simp -implicitDefEqProofs only [simA, Nat.reduceAdd, Nat.reduceLT, Nat.reduceEqDiff, Nat.reduceLeDiff, Nat.reduceMul, Int.reduceBEq, Int.reduceBNe, Int.reduceLT, Int.reduceLE, Int.reduceAdd, Int.reduceSub, Int.reduceMul, Int.reduceNeg, Nat.reduceSub, Nat.reducePow, Nat.reduceDiv, Nat.reduceMod, prs_70_1, fo_67_1, sz_65, agg_65, ln_65, keep_70, E_masks, masks, rows_70, Tryz.f70, hid', hl, pairsOK, clsOf]
    exact ⟨_, _, _, rfl, ⟨Nat.le_refl _, fun _ _ => rfl, fun _ _ _ _ _ _ _ => rfl, fun _ h => nomatch h⟩⟩
  · have hid' : h[id]? = some (.row 2 0 [.agg [.agg [.ptr id 0 0 [0] 0, .sl bid gen 0 bs.length]]] ⟨true, 69⟩) := hid
    rw [call_at (E := E) (f := 70) (fn := Tryz.f70) rfl Tryz.func70 rfl (Nat.le_of_ble_eq_true rfl)]
    cases bs with
    | nil => exact (hbs rfl).elim
    | cons c bs =>
      have hbl : bid < h.length := (List.getElem?_eq_some_iff.1 hb).1
      simp -implicitDefEqProofs only [simA, Nat.reduceAdd, Nat.reduceLT, Nat.reduceEqDiff, Nat.reduceLeDiff, Nat.reduceMul, Int.reduceBEq, Int.reduceBNe, Int.reduceLT, Int.reduceLE, Int.reduceAdd, Int.reduceSub, Int.reduceMul, Int.reduceNeg, Nat.reduceSub, Nat.reducePow, Nat.reduceDiv, Nat.reduceMod, prs_70_1, fo_67_1, sz_65, agg_65, ln_65, keep_70, E_masks, masks, rows_70, Tryz.f70, hid', pairsOK, clsOf, compat, data_sl hb, ustr_row hb und_159' cells_5 ht, hbl, set_take]
      refine ⟨_, _, _, rfl, ⟨by simp, fun j hj => List.getElem?_set_ne (by omega), fun j k g els tag hj hk => ?_, fun i hi => by rw [List.mem_singleton.1 hi]; exact hBb⟩⟩
      have : j ≠ bid := fun e => by subst e; rw [hb] at hj; injection hj with hj; injection hj with hj; omega
      rw [List.getElem?_set_ne (by omega)]

/-- A method that hands a writer on to another one: what it leaves. -/
theorem pass {B : Nat} {h h1 : Heap} {id : Nat} {ds ls : List Nat} {f : FuncId} {fr : FR} (hk : E.keep f = false) (hlt : id < h.length) (w : Wrote B h h1 id ds ls) : ∃ h' ds' ls', some (finish (E.keep f) h ⟨fr, h1, mergeLt h.length ds [], mergeLt h.length ls []⟩ (.tup [])) = some (AV.tup [], h', (⟨ds', ls', false⟩ : Eff)) ∧ h' = h1 ∧ Wrote B h h' id ds' ls' := by
  rw [hk]
  rcases w.how with rfl | ⟨rfl, rfl, hl⟩
  · simp only [Zdz, hlt, if_true, Zfi, Zeq]
    exact ⟨_, _, _, rfl, rfl, ⟨w.len, w.old, w.keep, (fun i hi => (mergeLt_mem hi).elim (w.dge i) fun h => nomatch h), .inl rfl⟩⟩
  · simp only [Zdz, Zdv, hlt, if_true, Zfi, Zem, frz, frzL, Zeo]
    refine ⟨_, _, _, rfl, List.take_of_length_le (by omega), ?_⟩
    rw [List.take_of_length_le (by omega)]
    exact ⟨w.len, w.old, w.keep, w.dge, .inr ⟨rfl, rfl, hl⟩⟩

theorem WR.lt {B : Nat} {h : Heap} {id : Nat} {bs : List UInt8} (w : WR B h id bs) : id < h.length := by
  obtain ⟨_, addr, buf, hid, _⟩ := w
  exact (List.getElem?_eq_some_iff.1 hid).1

theorem c29 (n B : Nat) (h : Heap) (id : Nat) (bs : List UInt8) (b : UInt8) (w : WR B h id bs) (hl : bs.length < 100000000) : ∃ h' ds, call E (n + 503) 29 [.ptr id 0 0 [] 0, .v (.int .u8 b.toNat)] h = some (.tup [], h', ⟨ds, [id], false⟩) ∧ WR B h' id (bs ++ [b]) ∧ Wrote B h h' id ds [id] := by
  obtain ⟨h1, ds, ls, hc, rfl, w1, w2⟩ := c66 n B h id bs b w hl
  have hlt := w.lt
  rw [call_at (E := E) (f := 29) (fn := Tryz.f29) rfl Tryz.func29 rfl (Nat.le_of_ble_eq_true rfl)]
  simp -implicitDefEqProofs only [simA, Nat.reduceAdd, Nat.reduceLT, Nat.reduceEqDiff, Nat.reduceLeDiff, Nat.reduceMul, Int.reduceBEq, Int.reduceBNe, Int.reduceLT, Int.reduceLE, Int.reduceAdd, Int.reduceSub, Int.reduceMul, Int.reduceNeg, Nat.reduceSub, Nat.reducePow, Nat.reduceDiv, Nat.reduceMod, pe_63, pn_63, ps_63, pz_63, py_63, fo_69_0, keep_29, E_masks, masks, rows_29, Tryz.f29, hc, hlt]
  exact ⟨_, _, rfl, w1, ⟨w2.len, w2.old, w2.keep, (fun i hi => (mergeLt_mem hi).elim (w2.dge i) fun h => nomatch h), .inl rfl⟩⟩

theorem c30 (n B : Nat) (h : Heap) (id : Nat) (bs cs : List UInt8) (w : WR B h id bs) (hl : bs.length + cs.length < 100000000) : ∃ h' ds ls, call E (n + 503) 30 [.ptr id 0 0 [] 0, .v (.string (strB cs))] h = some (.tup [], h', ⟨ds, ls, false⟩) ∧ WR B h' id (bs ++ cs) ∧ Wrote B h h' id ds ls := by
  obtain ⟨h1, ds, ls, e, hc, w1, w2⟩ := c67 n B h id bs cs w hl
  rw [call_at (E := E) (f := 30) (fn := Tryz.f30) rfl Tryz.func30 rfl (Nat.le_of_ble_eq_true rfl)]
  simp -implicitDefEqProofs only [simA, Nat.reduceAdd, Nat.reduceLT, Nat.reduceEqDiff, Nat.reduceLeDiff, Nat.reduceMul, Int.reduceBEq, Int.reduceBNe, Int.reduceLT, Int.reduceLE, Int.reduceAdd, Int.reduceSub, Int.reduceMul, Int.reduceNeg, Nat.reduceSub, Nat.reducePow, Nat.reduceDiv, Nat.reduceMod, pe_63, pn_63, ps_63, pz_63, py_63, fo_69_0, keep_30, E_masks, masks, rows_30, Tryz.f30, hc]
  obtain ⟨h', ds', ls', e, rfl, w3⟩ := pass (f := 30) keep_30 w.lt w2
  exact ⟨_, _, _, by rw [← keep_30]; exact e, w1, w3⟩

theorem c32 (n B : Nat) (h : Heap) (id : Nat) (bs : List UInt8) (w : WR B h id bs) : ∃ h' ds q, call E (n + 501) 32 [.ptr id 0 0 [] 0] h = some (.v (.string (strB bs)), h', ⟨ds, [], q⟩) ∧ Kept B h h' id ds := by
  obtain ⟨h1, ds, q, hc, w1⟩ := c70 n B h id bs w
  rw [call_at (E := E) (f := 32) (fn := Tryz.f32) rfl Tryz.func32 rfl (Nat.le_of_ble_eq_true rfl)]
  simp -implicitDefEqProofs only [simA, Nat.reduceAdd, Nat.reduceLT, Nat.reduceEqDiff, Nat.reduceLeDiff, Nat.reduceMul, Int.reduceBEq, Int.reduceBNe, Int.reduceLT, Int.reduceLE, Int.reduceAdd, Int.reduceSub, Int.reduceMul, Int.reduceNeg, Nat.reduceSub, Nat.reducePow, Nat.reduceDiv, Nat.reduceMod, pe_63, pn_63, ps_63, pz_63, py_63, fo_69_0, keep_32, E_masks, masks, rows_32, Tryz.f32, hc]
  cases hd : mergeLt h.length ds [] with
  | nil => exact ⟨_, _, _, rfl, ⟨Nat.le_refl _, fun _ _ => rfl, fun _ _ _ _ _ _ _ => rfl, fun _ h => nomatch h⟩⟩
  | cons i l =>
    have hm : ∀ j ∈ i :: l, B ≤ j := fun j hj => by
      rw [← hd] at hj
      exact (mergeLt_mem hj).elim (w1.dge j) fun h => nomatch h
    refine ⟨_, _, _, rfl, ⟨by simp [w1.len], fun j hj => ?_, fun j k g els tag hj hk => ?_, hm⟩⟩
    · rw [List.getElem?_take_of_lt (by have := w.lt; have := w.1; omega), w1.old j hj]
    · rw [List.getElem?_take_of_lt (List.getElem?_eq_some_iff.1 hj).1, w1.keep j k g els tag hj hk]

/-- A number's bytes. -/
def num (n : Nat) : List UInt8 := if n < 128 then [UInt8.ofNat n] else UInt8.ofNat (n % 128 + 128) :: num (n / 128)
termination_by n
decreasing_by omega

theorem Wrote.trans {B : Nat} {h h1 h2 : Heap} {id : Nat} {d1 l1 d2 l2 ds : List Nat} (a : Wrote B h h1 id d1 l1) (b : Wrote B h1 h2 id d2 l2) (hd : ∀ i ∈ ds, B ≤ i) : Wrote B h h2 id ds [id] :=
  ⟨Nat.le_trans a.len b.len, fun j hj => (b.old j hj).trans (a.old j hj), fun j k g els tag hj hk hn => by
    have h1 := a.keep j k g els tag hj hk hn
    rw [b.keep j k g els tag (h1.trans hj) hk hn, h1], hd, .inl rfl⟩

theorem Wrote.refl' {B : Nat} {h : Heap} {id : Nat} {ds : List Nat} (hd : ∀ i ∈ ds, B ≤ i) : Wrote B h h id ds [id] := ⟨Nat.le_refl _, fun _ _ => rfl, fun _ _ _ _ _ _ _ _ => rfl, hd, .inl rfl⟩

/-- A round of the writing of a number. -/
theorem round28 (n B n0 : Nat) (h : Heap) (id m : Nat) (bs : List UInt8) (ds ls : List Nat) (w : WR B h id bs) (hl : bs.length < 100000000) (hm : 128 ≤ m) (hm2 : m < 18446744073709551616) (hn0 : id < n0) (hls : ls = [] ∨ ls = [id]) (hds : ∀ i ∈ ds, B ≤ i) :
    ∃ fr h' ds', exec E (call E (n + 503)) (n + 503) 28 17 n0 (loopB Tryz.f28 0) ⟨[(0, .ptr id 0 0 [] 0), (1, .v (.int .u64 m))], h, ds, ls⟩ = some (.normal, ⟨fr, h', ds', [id]⟩) ∧ keepF (masks 28) fr = [(0, .ptr id 0 0 [] 0), (1, .v (.int .u64 (m / 128 : Nat)))] ∧
      WR B h' id (bs ++ [UInt8.ofNat (m % 128 + 128)]) ∧ Wrote B h h' id ds' [id] := by
  obtain ⟨h1, d1, hc, w1, w2⟩ := c29 n B h id bs (UInt8.ofNat (m % 128 + 128)) w hl
  have hb : ((UInt8.ofNat (m % 128 + 128)).toNat : Int) = ((m % 256 % 128 + 128 : Nat) : Int) := by
    rw [UInt8.toNat_ofNat']
    omega
  have hw : IntKind.u8.wrap (m : Int) = ((m % 256 : Nat) : Int) := by rw [wrap_u8]; omega
  rw [hb] at hc
  have hge : (128 : Int) ≤ m := by omega
  have hor := or_128 (k := m % 256) (by omega)
  rw [exec_code]
  have hsh : ((m : Int)).fdiv (2 ^ (min (7 : Int).toNat IntKind.u64.bits)) = ((m / 128 : Nat) : Int) := shr_7
  simp -implicitDefEqProofs only [simA, Nat.reduceAdd, Nat.reduceLT, Nat.reduceEqDiff, Nat.reduceLeDiff, Nat.reduceMul, Int.reduceBEq, Int.reduceBNe, Int.reduceLT, Int.reduceLE, Int.reduceAdd, Int.reduceSub, Int.reduceMul, Int.reduceNeg, Nat.reduceSub, Nat.reducePow, Nat.reduceDiv, Nat.reduceMod, cv_71_5, keep_28, E_masks, masks, rows_28, Tryz.f28, hge, hw, hor, hc, bin_shr (y := 7) (by omega), hsh]
  have hl2 : (if id < n0 then ins id ls else ls) = [id] := by rcases hls with rfl | rfl <;> simp [hn0, Zfi, Zfj]
  rw [hl2]
  exact ⟨_, _, _, rfl, rfl, w1, ⟨w2.len, w2.old, w2.keep, fun i hi => (mergeLt_mem hi).elim (w2.dge i) (hds i), .inl rfl⟩⟩

structure Left (B : Nat) (h h' : Heap) (id : Nat) : Prop where
  len : h.length ≤ h'.length
  old : ∀ j, j < B → h'[j]? = h[j]?
  keep : ∀ j k g els tag, h[j]? = some (.row k g els tag) → k ≠ 1 → j ≠ id → h'[j]? = h[j]?
theorem Left.refl (B : Nat) (h : Heap) (id : Nat) : Left B h h id := ⟨Nat.le_refl _, fun _ _ => rfl, fun _ _ _ _ _ _ _ _ => rfl⟩
theorem Left.trans {B : Nat} {h h1 h2 : Heap} {id : Nat} (a : Left B h h1 id) (b : Left B h1 h2 id) : Left B h h2 id :=
  ⟨Nat.le_trans a.len b.len, fun j hj => (b.old j hj).trans (a.old j hj), fun j k g els tag hj hk hn => by
    have h1 := a.keep j k g els tag hj hk hn
    rw [b.keep j k g els tag (h1.trans hj) hk hn, h1]⟩
theorem Wrote.left {B : Nat} {h h' : Heap} {id : Nat} {ds ls : List Nat} (w : Wrote B h h' id ds ls) : Left B h h' id := ⟨w.len, w.old, w.keep⟩

theorem num_small {m : Nat} (h : m < 128) : num m = [UInt8.ofNat m] := by rw [num]; simp [h]
theorem num_big {m : Nat} (h : 128 ≤ m) : num m = UInt8.ofNat (m % 128 + 128) :: num (m / 128) := by rw [num, if_neg (by omega)]

theorem loop28 (n B n0 id : Nat) (hn0 : id < n0) : ∀ (k j m : Nat) (h : Heap) (bs : List UInt8) (ds ls : List Nat) (fr : FR), keepF (masks 28) fr = [(0, .ptr id 0 0 [] 0), (1, .v (.int .u64 m))] → WR B h id bs → m < 128 ^ (k + 1) → k < j → m < 18446744073709551616 → bs.length + k < 100000000 → (ls = [] ∨ ls = [id]) → (∀ i ∈ ds, B ≤ i) →
    ∃ fr' h' ds' ls' m' bs', loopN (exec E (call E (n + 503)) (n + 503) 28 17 n0 (loopB Tryz.f28 0)) (masks 28) j ⟨fr, h, ds, ls⟩ = some (.exit 0, ⟨fr', h', ds', ls'⟩) ∧ AM.get fr' 0 = some (.ptr id 0 0 [] 0) ∧ AM.get fr' 1 = some (.v (.int .u64 (m' : Nat))) ∧ m' < 128 ∧ WR B h' id bs' ∧ bs' ++ num m' = bs ++ num m ∧ Left B h h' id ∧ (ls' = [] ∨ ls' = [id]) ∧ (∀ i ∈ ds', B ≤ i) ∧ bs'.length ≤ bs.length + k := by
  intro k
  induction k with
  | zero =>
    intro j m h bs ds ls fr hfr w hm hj hm2 hlen hls hds
    obtain ⟨j, rfl⟩ : ∃ i, j = i + 1 := ⟨j - 1, by omega⟩
    have hm' : m < 128 := by simpa using hm
    have hge : ¬ (128 : Int) ≤ m := by omega
    have he : exec E (call E (n + 503)) (n + 503) 28 17 n0 (loopB Tryz.f28 0) ⟨keepF (masks 28) fr, h, ds, ls⟩ = some (.exit 0, ⟨[(5, .v (.bool false)), (4, .v (.int .u64 m)), (0, .ptr id 0 0 [] 0), (1, .v (.int .u64 m))], h, ds, ls⟩) := by
      rw [hfr, exec_code]
      simp -implicitDefEqProofs only [simA, Nat.reduceAdd, Nat.reduceLT, Nat.reduceEqDiff, Nat.reduceLeDiff, Nat.reduceMul, Int.reduceBEq, Int.reduceBNe, Int.reduceLT, Int.reduceLE, Int.reduceAdd, Int.reduceSub, Int.reduceMul, Int.reduceNeg, Nat.reduceSub, Nat.reducePow, Nat.reduceDiv, Nat.reduceMod, cv_71_5, keep_28, E_masks, masks, rows_28, Tryz.f28, hge]
    exact ⟨_, _, _, _, m, bs, loopN_out he, rfl, rfl, hm', w, rfl, Left.refl _ _ _, hls, hds, Nat.le_refl _⟩
  | succ k ih =>
    intro j m h bs ds ls fr hfr w hm hj hm2 hlen hls hds
    obtain ⟨j, rfl⟩ : ∃ i, j = i + 1 := ⟨j - 1, by omega⟩
    by_cases hm' : m < 128
    · have hge : ¬ (128 : Int) ≤ m := by omega
      have he : exec E (call E (n + 503)) (n + 503) 28 17 n0 (loopB Tryz.f28 0) ⟨keepF (masks 28) fr, h, ds, ls⟩ = some (.exit 0, ⟨[(5, .v (.bool false)), (4, .v (.int .u64 m)), (0, .ptr id 0 0 [] 0), (1, .v (.int .u64 m))], h, ds, ls⟩) := by
        rw [hfr, exec_code]
        simp -implicitDefEqProofs only [simA, Nat.reduceAdd, Nat.reduceLT, Nat.reduceEqDiff, Nat.reduceLeDiff, Nat.reduceMul, Int.reduceBEq, Int.reduceBNe, Int.reduceLT, Int.reduceLE, Int.reduceAdd, Int.reduceSub, Int.reduceMul, Int.reduceNeg, Nat.reduceSub, Nat.reducePow, Nat.reduceDiv, Nat.reduceMod, cv_71_5, keep_28, E_masks, masks, rows_28, Tryz.f28, hge]
      exact ⟨_, _, _, _, m, bs, loopN_out he, rfl, rfl, hm', w, rfl, Left.refl _ _ _, hls, hds, by omega⟩
    · obtain ⟨fr1, h1, d1, he, hk, w1, w2⟩ := round28 n B n0 h id m bs ds ls w (by omega) (by omega) hm2 hn0 hls hds
      obtain ⟨fr', h', ds', ls', m', bs', g1, g2, g3, g4, g5, g6, g7, g8, g9, g10⟩ := ih j (m / 128) h1 (bs ++ [UInt8.ofNat (m % 128 + 128)]) d1 [id] fr1 hk w1 (by rw [Nat.pow_succ] at hm; omega) (by omega) (by omega) (by simp; omega) (.inr rfl) w2.dge
      refine ⟨fr', h', ds', ls', m', bs', ?_, g2, g3, g4, g5, ?_, w2.left.trans g7, g8, g9, by simp at g10; omega⟩
      · rw [loopN_step (by rw [hfr]; exact he)]
        exact g1
      · rw [g6, num_big (by omega : 128 ≤ m)]
        simp

theorem c28 (n B : Nat) (h : Heap) (id m : Nat) (bs : List UInt8) (w : WR B h id bs) (hl : bs.length < 90000000) (hm : m < 18446744073709551616) : ∃ h' ds, call E (n + 504) 28 [.ptr id 0 0 [] 0, .v (.int .u64 m)] h = some (.tup [], h', ⟨ds, [id], false⟩) ∧ WR B h' id (bs ++ num m) ∧ Wrote B h h' id ds [id] := by
  have hlt := w.lt
  obtain ⟨fr', h1, d1, l1, m', bs', g1, g2, g3, g4, g5, g6, g7, g8, g9, g10⟩ := loop28 n B h.length id hlt 9 (n + 503) m h bs [] [] [(0, .ptr id 0 0 [] 0), (1, .v (.int .u64 m))] rfl w (by omega) (by omega) hm (by omega) (.inl rfl) (fun _ h => nomatch h)
  obtain ⟨h2, d2, hc, w1, w2⟩ := c29 n B h1 id bs' (UInt8.ofNat m') g5 (by omega)
  have hb : ((UInt8.ofNat m').toNat : Int) = (m' : Int) := by
    rw [UInt8.toNat_ofNat']
    omega
  have hw : IntKind.u8.wrap (m' : Int) = (m' : Int) := by rw [wrap_u8]; omega
  rw [hb] at hc
  simp -implicitDefEqProofs only [simA, Nat.reduceAdd, Nat.reduceLT, Nat.reduceEqDiff, Nat.reduceLeDiff, Nat.reduceMul, Int.reduceBEq, Int.reduceBNe, Int.reduceLT, Int.reduceLE, Int.reduceAdd, Int.reduceSub, Int.reduceMul, Int.reduceNeg, Nat.reduceSub, Nat.reducePow, Nat.reduceDiv, Nat.reduceMod, cv_71_5, keep_28, E_masks, masks, rows_28, Tryz.f28] at g1
  rw [call_at (E := E) (f := 28) (fn := Tryz.f28) rfl Tryz.func28 rfl (Nat.le_of_ble_eq_true rfl)]
  simp -implicitDefEqProofs only [simA, Nat.reduceAdd, Nat.reduceLT, Nat.reduceEqDiff, Nat.reduceLeDiff, Nat.reduceMul, Int.reduceBEq, Int.reduceBNe, Int.reduceLT, Int.reduceLE, Int.reduceAdd, Int.reduceSub, Int.reduceMul, Int.reduceNeg, Nat.reduceSub, Nat.reducePow, Nat.reduceDiv, Nat.reduceMod, cv_71_5, keep_28, E_masks, masks, rows_28, Tryz.f28, g1, g2, g3, hw, hc, hlt]
  have hl2 : ins id l1 = [id] := by rcases g8 with rfl | rfl <;> simp [Zfi, Zfj]
  rw [hl2]
  simp only [Zeq]
  refine ⟨_, _, rfl, ?_, ⟨(g7.trans w2.left).len, (g7.trans w2.left).old, (g7.trans w2.left).keep, fun i hi => (mergeLt_mem hi).elim (w2.dge i) (g9 i), .inl rfl⟩⟩
  rw [← g6, num_small g4]
  exact w1

end Go.Proofs.YtobdjegooonklaaGreat
