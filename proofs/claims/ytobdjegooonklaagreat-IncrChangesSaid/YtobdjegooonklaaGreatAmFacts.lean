/- Closed facts on the seat's types: by gen_facts.py. Conditions: none. -/
import Derived.Test.YtobdjegooonklaaGreatAmSeat
import Derived.Test.YtobdjegooonklaaGreatAmSim
set_option linter.unusedVariables false
namespace Go.Proofs.YtobdjegooonklaaGreat
open Go Go.AM

theorem und_22 : E.P.underlying 22 = some (.slice 60) := by kernel_rfl
theorem ln_22 {h : Heap} {x : AV} : lenE E.P h #[22] x = match sliceLen x with | some n => some (vInt n, h, none, .pure) | none => none := len_slice und_22
theorem bs_22_0_3 {h : Heap} {qs : List (Nat × AV)} : bsE E h 3 22 0 (some qs) = match setParts (fun i => some (i * 21, 21)) ([]) qs with | some l => some (.lit 21 true l, h, none) | none => none := by kernel_rfl
theorem ap_22_22 {h : Heap} {s x : AV} : appendE E.P E.zeros h #[22, 22] s x = apO h 60 21 56 s (srcEls E.P E.zeros h 22 60 21 x) := ap_at und_22 (by kernel_rfl) (by omega) (by omega)
theorem src_22 {h : Heap} {e k : Nat} {x : AV} : srcEls E.P E.zeros h 22 e k x = srS h k x := src_slice und_22
theorem und_9 : E.P.underlying 9 = some (.string) := by kernel_rfl
theorem ln_9 {h : Heap} {s : ByteArray} : lenE E.P h #[9] (.v (.string s)) = some (vInt s.size, h, none, .pure) := len_str und_9
theorem und_36 : E.P.underlying 36 = some (.slice 58) := by kernel_rfl
theorem ln_36 {h : Heap} {x : AV} : lenE E.P h #[36] x = match sliceLen x with | some n => some (vInt n, h, none, .pure) | none => none := len_slice und_36
theorem bs_36_0_5 {h : Heap} {qs : List (Nat × AV)} : bsE E h 5 36 0 (some qs) = match setParts (fun i => some (i * 20, 20)) ([]) qs with | some l => some (.lit 20 true l, h, none) | none => none := by kernel_rfl
theorem ap_36_36 {h : Heap} {s x : AV} : appendE E.P E.zeros h #[36, 36] s x = apO h 58 20 48 s (srcEls E.P E.zeros h 36 58 20 x) := ap_at und_36 (by kernel_rfl) (by omega) (by omega)
theorem src_36 {h : Heap} {e k : Nat} {x : AV} : srcEls E.P E.zeros h 36 e k x = srS h k x := src_slice und_36
theorem bs_22_0_5 {h : Heap} {qs : List (Nat × AV)} : bsE E h 5 22 0 (some qs) = match setParts (fun i => some (i * 21, 21)) ([]) qs with | some l => some (.lit 21 true l, h, none) | none => none := by kernel_rfl
theorem und_37 : E.P.underlying 37 = some (.pointer 99) := by kernel_rfl
theorem sz_99 : szOf E.P 99 = some 1 := by kernel_rfl
theorem pe_37 {ox oy : Operand} {id g i o : Nat} {p : List Nat} : binE E.P .eql 37 ox oy (.ptr id g i p o) (.v (.pointer none)) = some (.v (.bool false)) := ptr_eq und_37
theorem pn_37 {ox oy : Operand} {id g i o : Nat} {p : List Nat} : binE E.P .neq 37 ox oy (.ptr id g i p o) (.v (.pointer none)) = some (.v (.bool true)) := ptr_ne und_37
theorem ps_37 {ox oy : Operand} {id g i o : Nat} {p q : List Nat} : binE E.P .neq 37 ox oy (.ptr id g i p o) (.ptr id g i q o) = some (.v (.bool false)) := ptr_self_ne und_37 sz_99 (by omega)
theorem pz_37 {ox oy : Operand} : binE E.P .eql 37 ox oy (.v (.pointer none)) (.v (.pointer none)) = some (.v (.bool true)) := by kernel_rfl
theorem py_37 {ox oy : Operand} : binE E.P .neq 37 ox oy (.v (.pointer none)) (.v (.pointer none)) = some (.v (.bool false)) := by kernel_rfl
theorem bs_22_0_7 {h : Heap} {qs : List (Nat × AV)} : bsE E h 7 22 0 (some qs) = match setParts (fun i => some (i * 21, 21)) ([]) qs with | some l => some (.lit 21 true l, h, none) | none => none := by kernel_rfl
theorem bs_36_0_7 {h : Heap} {qs : List (Nat × AV)} : bsE E h 7 36 0 (some qs) = match setParts (fun i => some (i * 20, 20)) ([]) qs with | some l => some (.lit 20 true l, h, none) | none => none := by kernel_rfl
theorem bs_36_0_8 {h : Heap} {qs : List (Nat × AV)} : bsE E h 8 36 0 (some qs) = match setParts (fun i => some (i * 20, 20)) ([]) qs with | some l => some (.lit 20 true l, h, none) | none => none := by kernel_rfl
theorem bs_22_0_8 {h : Heap} {qs : List (Nat × AV)} : bsE E h 8 22 0 (some qs) = match setParts (fun i => some (i * 21, 21)) ([]) qs with | some l => some (.lit 21 true l, h, none) | none => none := by kernel_rfl
theorem bs_36_0_9 {h : Heap} {qs : List (Nat × AV)} : bsE E h 9 36 0 (some qs) = match setParts (fun i => some (i * 20, 20)) ([]) qs with | some l => some (.lit 20 true l, h, none) | none => none := by kernel_rfl
theorem zero_60 : E.zero 60 = some (.agg [.v (.int .i64 0), .agg [.agg [.v (.bool false), .agg (List.replicate 16 (.v (.int .u8 0))), .v (.int .i64 0)], .v (.int .i64 0), .v (.int .u32 0)]]) := by kernel_rfl
theorem bs_22_2_10 {h : Heap} {qs : List (Nat × AV)} : bsE E h 10 22 2 (some qs) = match setParts (fun i => some (i * 21, 21)) ([.agg [.v (.int .i64 0), .agg [.agg [.v (.bool false), .agg (List.replicate 16 (.v (.int .u8 0))), .v (.int .i64 0)], .v (.int .i64 0), .v (.int .u32 0)]], .agg [.v (.int .i64 0), .agg [.agg [.v (.bool false), .agg (List.replicate 16 (.v (.int .u8 0))), .v (.int .i64 0)], .v (.int .i64 0), .v (.int .u32 0)]]]) qs with | some l => some (.lit 21 true l, h, none) | none => none := by kernel_rfl
theorem bs_22_1_10 {h : Heap} {qs : List (Nat × AV)} : bsE E h 10 22 1 (some qs) = match setParts (fun i => some (i * 21, 21)) ([.agg [.v (.int .i64 0), .agg [.agg [.v (.bool false), .agg (List.replicate 16 (.v (.int .u8 0))), .v (.int .i64 0)], .v (.int .i64 0), .v (.int .u32 0)]]]) qs with | some l => some (.lit 21 true l, h, none) | none => none := by kernel_rfl
theorem prs_10_9 : E.pairs 10 9 = [(43, 45), (44, 45)] := by kernel_rfl
theorem sz_60 : szOf E.P 60 = some 21 := by kernel_rfl
theorem agg_60 : aggT E.P 60 = some true := by kernel_rfl
theorem zero_69 : E.zero 69 = some (.agg [.agg [.v (.pointer none), .v (.slice none 0 0)]]) := by kernel_rfl
theorem bd_69 {qs : List (Nat × AV)} : buildE E 69 qs = match setParts (fun i => [(0, 2)][i]?) ([.agg [.v (.pointer none), .v (.slice none 0 0)]]) qs with | some l => some (.agg l) | none => none := by kernel_rfl
theorem und_3 : E.P.underlying 3 = some (.int .i64) := by kernel_rfl
theorem und_71 : E.P.underlying 71 = some (.int .u64) := by kernel_rfl
theorem cv_3_71 {h : Heap} {n : Int} : convE E.P h 3 71 (.v (.int .i64 n)) = some (.v (.int .u64 (IntKind.u64.wrap n)), h, none) := cv_int (d := .bool) und_3 und_71
theorem fo_60_0 : fieldOf E.P 60 0 = some (0, 1) := by kernel_rfl
theorem sz_3 : szOf E.P 3 = some 1 := by kernel_rfl
theorem agg_3 : aggT E.P 3 = some false := by kernel_rfl
theorem und_5 : E.P.underlying 5 = some (.int .u8) := by kernel_rfl
theorem cv_3_5 {h : Heap} {n : Int} : convE E.P h 3 5 (.v (.int .i64 n)) = some (.v (.int .u8 (IntKind.u8.wrap n)), h, none) := cv_int (d := .bool) und_3 und_5
theorem fo_60_1 : fieldOf E.P 60 1 = some (1, 20) := by kernel_rfl
theorem fo_58_0 : fieldOf E.P 58 0 = some (0, 18) := by kernel_rfl
theorem sz_55 : szOf E.P 55 = some 18 := by kernel_rfl
theorem agg_55 : aggT E.P 55 = some true := by kernel_rfl
theorem fo_58_1 : fieldOf E.P 58 1 = some (18, 1) := by kernel_rfl
theorem fo_58_2 : fieldOf E.P 58 2 = some (19, 1) := by kernel_rfl
theorem sz_56 : szOf E.P 56 = some 1 := by kernel_rfl
theorem agg_56 : aggT E.P 56 = some false := by kernel_rfl
theorem und_56 : E.P.underlying 56 = some (.int .u32) := by kernel_rfl
theorem cv_56_71 {h : Heap} {n : Int} : convE E.P h 56 71 (.v (.int .u32 n)) = some (.v (.int .u64 (IntKind.u64.wrap n)), h, none) := cv_int (d := .bool) und_56 und_71
theorem bs_22_1_13 {h : Heap} {qs : List (Nat × AV)} : bsE E h 13 22 1 (some qs) = match setParts (fun i => some (i * 21, 21)) ([.agg [.v (.int .i64 0), .agg [.agg [.v (.bool false), .agg (List.replicate 16 (.v (.int .u8 0))), .v (.int .i64 0)], .v (.int .i64 0), .v (.int .u32 0)]]]) qs with | some l => some (.lit 21 true l, h, none) | none => none := by kernel_rfl
theorem prs_14_6 : E.pairs 14 6 = [] := by kernel_rfl
theorem zero_86 : E.zero 86 = some (.agg [.v (.string ByteArray.empty), .v (.int .i64 0)]) := by kernel_rfl
theorem bd_86 {qs : List (Nat × AV)} : buildE E 86 qs = match setParts (fun i => [(0, 1), (1, 1)][i]?) ([.v (.string ByteArray.empty), .v (.int .i64 0)]) qs with | some l => some (.agg l) | none => none := by kernel_rfl
theorem fo_86_1 : fieldOf E.P 86 1 = some (1, 1) := by kernel_rfl
theorem prs_15_4 : E.pairs 15 4 = [] := by kernel_rfl
theorem cv_5_3 {h : Heap} {n : Int} : convE E.P h 5 3 (.v (.int .u8 n)) = some (.v (.int .i64 (IntKind.i64.wrap n)), h, none) := cv_int (d := .bool) und_5 und_3
theorem bd_60 {qs : List (Nat × AV)} : buildE E 60 qs = match setParts (fun i => [(0, 1), (1, 20)][i]?) ([.v (.int .i64 0), .agg [.agg [.v (.bool false), .agg (List.replicate 16 (.v (.int .u8 0))), .v (.int .i64 0)], .v (.int .i64 0), .v (.int .u32 0)]]) qs with | some l => some (.agg l) | none => none := by kernel_rfl
theorem prs_15_13 : E.pairs 15 13 = [] := by kernel_rfl
theorem zero_55 : E.zero 55 = some (.agg [.v (.bool false), .agg (List.replicate 16 (.v (.int .u8 0))), .v (.int .i64 0)]) := by kernel_rfl
theorem prs_15_23 : E.pairs 15 23 = [] := by kernel_rfl
theorem prs_15_28 : E.pairs 15 28 = [] := by kernel_rfl
theorem cv_71_3 {h : Heap} {n : Int} : convE E.P h 71 3 (.v (.int .u64 n)) = some (.v (.int .i64 (IntKind.i64.wrap n)), h, none) := cv_int (d := .bool) und_71 und_3
theorem cv_71_56 {h : Heap} {n : Int} : convE E.P h 71 56 (.v (.int .u64 n)) = some (.v (.int .u32 (IntKind.u32.wrap n)), h, none) := cv_int (d := .bool) und_71 und_56
theorem bs_22_1_15 {h : Heap} {qs : List (Nat × AV)} : bsE E h 15 22 1 (some qs) = match setParts (fun i => some (i * 21, 21)) ([.agg [.v (.int .i64 0), .agg [.agg [.v (.bool false), .agg (List.replicate 16 (.v (.int .u8 0))), .v (.int .i64 0)], .v (.int .i64 0), .v (.int .u32 0)]]]) qs with | some l => some (.lit 21 true l, h, none) | none => none := by kernel_rfl
theorem fo_86_0 : fieldOf E.P 86 0 = some (0, 1) := by kernel_rfl
theorem sz_9 : szOf E.P 9 = some 1 := by kernel_rfl
theorem agg_9 : aggT E.P 9 = some false := by kernel_rfl
theorem prs_16_7 : E.pairs 16 7 = [] := by kernel_rfl
theorem sz_58 : szOf E.P 58 = some 20 := by kernel_rfl
theorem zero_99 : E.zero 99 = some (.agg [.v (.slice none 0 0)]) := by kernel_rfl
theorem bd_99 {qs : List (Nat × AV)} : buildE E 99 qs = match setParts (fun i => [(0, 1)][i]?) ([.v (.slice none 0 0)]) qs with | some l => some (.agg l) | none => none := by kernel_rfl
theorem fo_99_0 : fieldOf E.P 99 0 = some (0, 1) := by kernel_rfl
theorem sz_36 : szOf E.P 36 = some 1 := by kernel_rfl
theorem agg_36 : aggT E.P 36 = some false := by kernel_rfl
theorem prs_20_6 : E.pairs 20 6 = [] := by kernel_rfl
theorem agg_58 : aggT E.P 58 = some true := by kernel_rfl
theorem zero_22 : E.zero 22 = some (.v (.slice none 0 0)) := by kernel_rfl
theorem bs_153_2_21 {h : Heap} {qs : List (Nat × AV)} : bsE E h 21 153 2 (some qs) = match setParts (fun i => some (i * 1, 1)) ([.v (.slice none 0 0), .v (.slice none 0 0)]) qs with | some l => some (.lit 1 true l, h, none) | none => none := by kernel_rfl
theorem zero_108 : E.zero 108 = some (.agg [.v (.bool false), .v (.bool false), .agg [.agg [.v (.bool false), .agg (List.replicate 16 (.v (.int .u8 0))), .v (.int .i64 0)], .v (.int .i64 0), .v (.int .u32 0)]]) := by kernel_rfl
theorem sz_108 : szOf E.P 108 = some 22 := by kernel_rfl
theorem fo_108_1 : fieldOf E.P 108 1 = some (1, 1) := by kernel_rfl
theorem sz_4 : szOf E.P 4 = some 1 := by kernel_rfl
theorem agg_4 : aggT E.P 4 = some false := by kernel_rfl
theorem fo_108_0 : fieldOf E.P 108 0 = some (0, 1) := by kernel_rfl
theorem prs_21_13 : E.pairs 21 13 = [(4, 6)] := by kernel_rfl
theorem fo_108_2 : fieldOf E.P 108 2 = some (2, 20) := by kernel_rfl
theorem agg_108 : aggT E.P 108 = some true := by kernel_rfl
theorem und_110 : E.P.underlying 110 = some (.slice 55) := by kernel_rfl
theorem ln_110 {h : Heap} {x : AV} : lenE E.P h #[110] x = match sliceLen x with | some n => some (vInt n, h, none, .pure) | none => none := len_slice und_110
theorem bs_22_1_21 {h : Heap} {qs : List (Nat × AV)} : bsE E h 21 22 1 (some qs) = match setParts (fun i => some (i * 21, 21)) ([.agg [.v (.int .i64 0), .agg [.agg [.v (.bool false), .agg (List.replicate 16 (.v (.int .u8 0))), .v (.int .i64 0)], .v (.int .i64 0), .v (.int .u32 0)]]]) qs with | some l => some (.lit 21 true l, h, none) | none => none := by kernel_rfl
theorem bs_22_0_22 {h : Heap} {qs : List (Nat × AV)} : bsE E h 22 22 0 (some qs) = match setParts (fun i => some (i * 21, 21)) ([]) qs with | some l => some (.lit 21 true l, h, none) | none => none := by kernel_rfl
theorem prs_22_12 : E.pairs 22 12 = [] := by kernel_rfl
theorem zero_58 : E.zero 58 = some (.agg [.agg [.v (.bool false), .agg (List.replicate 16 (.v (.int .u8 0))), .v (.int .i64 0)], .v (.int .i64 0), .v (.int .u32 0)]) := by kernel_rfl
theorem bd_58 {qs : List (Nat × AV)} : buildE E 58 qs = match setParts (fun i => [(0, 18), (18, 1), (19, 1)][i]?) ([.agg [.v (.bool false), .agg (List.replicate 16 (.v (.int .u8 0))), .v (.int .i64 0)], .v (.int .i64 0), .v (.int .u32 0)]) qs with | some l => some (.agg l) | none => none := by kernel_rfl
theorem bs_36_0_22 {h : Heap} {qs : List (Nat × AV)} : bsE E h 22 36 0 (some qs) = match setParts (fun i => some (i * 20, 20)) ([]) qs with | some l => some (.lit 20 true l, h, none) | none => none := by kernel_rfl
theorem bs_22_1_22 {h : Heap} {qs : List (Nat × AV)} : bsE E h 22 22 1 (some qs) = match setParts (fun i => some (i * 21, 21)) ([.agg [.v (.int .i64 0), .agg [.agg [.v (.bool false), .agg (List.replicate 16 (.v (.int .u8 0))), .v (.int .i64 0)], .v (.int .i64 0), .v (.int .u32 0)]]]) qs with | some l => some (.lit 21 true l, h, none) | none => none := by kernel_rfl
theorem prs_24_4 : E.pairs 24 4 = [] := by kernel_rfl
theorem bs_22_1_24 {h : Heap} {qs : List (Nat × AV)} : bsE E h 24 22 1 (some qs) = match setParts (fun i => some (i * 21, 21)) ([.agg [.v (.int .i64 0), .agg [.agg [.v (.bool false), .agg (List.replicate 16 (.v (.int .u8 0))), .v (.int .i64 0)], .v (.int .i64 0), .v (.int .u32 0)]]]) qs with | some l => some (.lit 21 true l, h, none) | none => none := by kernel_rfl
theorem prs_24_9 : E.pairs 24 9 = [] := by kernel_rfl
theorem zero_5 : E.zero 5 = some (.v (.int .u8 0)) := by kernel_rfl
theorem bs_65_4_25 {h : Heap} {qs : List (Nat × AV)} : bsE E h 25 65 4 (some qs) = match setParts (fun i => some (i * 1, 1)) ([.v (.int .u8 0), .v (.int .u8 0), .v (.int .u8 0), .v (.int .u8 0)]) qs with | some l => some (.lit 1 true l, h, none) | none => none := by kernel_rfl
theorem und_65 : E.P.underlying 65 = some (.slice 5) := by kernel_rfl
theorem cv_65_9 {h : Heap} {x : AV} : convE E.P h 65 9 x = match strOf h x with | some b => some (.v (.string b), h, none) | none => none := cv_bytes und_65 und_9 und_5
theorem cv_71_5 {h : Heap} {n : Int} : convE E.P h 71 5 (.v (.int .u64 n)) = some (.v (.int .u8 (IntKind.u8.wrap n)), h, none) := cv_int (d := .bool) und_71 und_5
theorem und_63 : E.P.underlying 63 = some (.pointer 69) := by kernel_rfl
theorem sz_69 : szOf E.P 69 = some 2 := by kernel_rfl
theorem pe_63 {ox oy : Operand} {id g i o : Nat} {p : List Nat} : binE E.P .eql 63 ox oy (.ptr id g i p o) (.v (.pointer none)) = some (.v (.bool false)) := ptr_eq und_63
theorem pn_63 {ox oy : Operand} {id g i o : Nat} {p : List Nat} : binE E.P .neq 63 ox oy (.ptr id g i p o) (.v (.pointer none)) = some (.v (.bool true)) := ptr_ne und_63
theorem ps_63 {ox oy : Operand} {id g i o : Nat} {p q : List Nat} : binE E.P .neq 63 ox oy (.ptr id g i p o) (.ptr id g i q o) = some (.v (.bool false)) := ptr_self_ne und_63 sz_69 (by omega)
theorem pz_63 {ox oy : Operand} : binE E.P .eql 63 ox oy (.v (.pointer none)) (.v (.pointer none)) = some (.v (.bool true)) := by kernel_rfl
theorem py_63 {ox oy : Operand} : binE E.P .neq 63 ox oy (.v (.pointer none)) (.v (.pointer none)) = some (.v (.bool false)) := by kernel_rfl
theorem fo_69_0 : fieldOf E.P 69 0 = some (0, 2) := by kernel_rfl
theorem prs_31_3 : E.pairs 31 3 = [(1, 3), (3, 11), (7, 11), (3, 14), (7, 14), (3, 15), (7, 15)] := by kernel_rfl
theorem fo_55_2 : fieldOf E.P 55 2 = some (17, 1) := by kernel_rfl
theorem bs_65_1_31 {h : Heap} {qs : List (Nat × AV)} : bsE E h 31 65 1 (some qs) = match setParts (fun i => some (i * 1, 1)) ([.v (.int .u8 0)]) qs with | some l => some (.lit 1 true l, h, none) | none => none := by kernel_rfl
theorem fo_55_1 : fieldOf E.P 55 1 = some (1, 16) := by kernel_rfl
theorem und_53 : E.P.underlying 53 = some (.array 16 5) := by kernel_rfl
theorem sz_5 : szOf E.P 5 = some 1 := by kernel_rfl
theorem agg_5 : aggT E.P 5 = some false := by kernel_rfl
theorem prs_34_5 : E.pairs 34 5 = [(7, 11), (7, 14), (3, 15), (5, 15), (6, 15), (7, 15), (8, 15)] := by kernel_rfl
theorem bs_65_1_34 {h : Heap} {qs : List (Nat × AV)} : bsE E h 34 65 1 (some qs) = match setParts (fun i => some (i * 1, 1)) ([.v (.int .u8 0)]) qs with | some l => some (.lit 1 true l, h, none) | none => none := by kernel_rfl
theorem prs_34_7 : E.pairs 34 7 = [(8, 11), (8, 14), (8, 15)] := by kernel_rfl
theorem zero_132 : E.zero 132 = some (.agg [.v (.string ByteArray.empty), .v (.int .i64 0)]) := by kernel_rfl
theorem bd_132 {qs : List (Nat × AV)} : buildE E 132 qs = match setParts (fun i => [(0, 1), (1, 1)][i]?) ([.v (.string ByteArray.empty), .v (.int .i64 0)]) qs with | some l => some (.agg l) | none => none := by kernel_rfl
theorem und_78 : E.P.underlying 78 = some (.pointer 132) := by kernel_rfl
theorem sz_132 : szOf E.P 132 = some 2 := by kernel_rfl
theorem pe_78 {ox oy : Operand} {id g i o : Nat} {p : List Nat} : binE E.P .eql 78 ox oy (.ptr id g i p o) (.v (.pointer none)) = some (.v (.bool false)) := ptr_eq und_78
theorem pn_78 {ox oy : Operand} {id g i o : Nat} {p : List Nat} : binE E.P .neq 78 ox oy (.ptr id g i p o) (.v (.pointer none)) = some (.v (.bool true)) := ptr_ne und_78
theorem ps_78 {ox oy : Operand} {id g i o : Nat} {p q : List Nat} : binE E.P .neq 78 ox oy (.ptr id g i p o) (.ptr id g i q o) = some (.v (.bool false)) := ptr_self_ne und_78 sz_132 (by omega)
theorem pz_78 {ox oy : Operand} : binE E.P .eql 78 ox oy (.v (.pointer none)) (.v (.pointer none)) = some (.v (.bool true)) := by kernel_rfl
theorem py_78 {ox oy : Operand} : binE E.P .neq 78 ox oy (.v (.pointer none)) (.v (.pointer none)) = some (.v (.bool false)) := by kernel_rfl
theorem fo_132_1 : fieldOf E.P 132 1 = some (1, 1) := by kernel_rfl
theorem sz_24 : szOf E.P 24 = some 1 := by kernel_rfl
theorem agg_24 : aggT E.P 24 = some false := by kernel_rfl
theorem cv_5_71 {h : Heap} {n : Int} : convE E.P h 5 71 (.v (.int .u8 n)) = some (.v (.int .u64 (IntKind.u64.wrap n)), h, none) := cv_int (d := .bool) und_5 und_71
theorem fo_132_0 : fieldOf E.P 132 0 = some (0, 1) := by kernel_rfl
theorem prs_42_3 : E.pairs 42 3 = [(4, 5)] := by kernel_rfl
theorem bd_55 {qs : List (Nat × AV)} : buildE E 55 qs = match setParts (fun i => [(0, 1), (1, 16), (17, 1)][i]?) ([.v (.bool false), .agg (List.replicate 16 (.v (.int .u8 0))), .v (.int .i64 0)]) qs with | some l => some (.agg l) | none => none := by kernel_rfl
theorem prs_42_7 : E.pairs 42 7 = [(1, 4)] := by kernel_rfl
theorem fo_55_0 : fieldOf E.P 55 0 = some (0, 1) := by kernel_rfl
theorem prs_42_11 : E.pairs 42 11 = [(4, 5)] := by kernel_rfl
theorem prs_49_1 : E.pairs 49 1 = [(1, 2), (1, 6), (3, 6), (4, 6), (1, 8), (3, 8), (4, 8), (1, 11), (3, 11), (4, 11), (9, 11), (1, 13), (3, 13), (4, 13), (9, 13)] := by kernel_rfl
theorem zero_3 : E.zero 3 = some (.v (.int .i64 0)) := by kernel_rfl
theorem bs_164_3_49 {h : Heap} {qs : List (Nat × AV)} : bsE E h 49 164 3 (some qs) = match setParts (fun i => some (i * 1, 1)) ([.v (.int .i64 0), .v (.int .i64 0), .v (.int .i64 0)]) qs with | some l => some (.lit 1 true l, h, none) | none => none := by kernel_rfl
theorem bs_36_0_50 {h : Heap} {qs : List (Nat × AV)} : bsE E h 50 36 0 (some qs) = match setParts (fun i => some (i * 20, 20)) ([]) qs with | some l => some (.lit 20 true l, h, none) | none => none := by kernel_rfl
theorem und_153 : E.P.underlying 153 = some (.slice 22) := by kernel_rfl
theorem ln_153 {h : Heap} {x : AV} : lenE E.P h #[153] x = match sliceLen x with | some n => some (vInt n, h, none, .pure) | none => none := len_slice und_153
theorem sz_22 : szOf E.P 22 = some 1 := by kernel_rfl
theorem agg_22 : aggT E.P 22 = some false := by kernel_rfl
theorem prs_57_4 : E.pairs 57 4 = [] := by kernel_rfl
theorem prs_58_6 : E.pairs 58 6 = [] := by kernel_rfl
theorem bs_36_1_58 {h : Heap} {qs : List (Nat × AV)} : bsE E h 58 36 1 (some qs) = match setParts (fun i => some (i * 20, 20)) ([.agg [.agg [.v (.bool false), .agg (List.replicate 16 (.v (.int .u8 0))), .v (.int .i64 0)], .v (.int .i64 0), .v (.int .u32 0)]]) qs with | some l => some (.lit 20 true l, h, none) | none => none := by kernel_rfl
theorem prs_59_4 : E.pairs 59 4 = [(0, 3), (0, 8), (4, 8)] := by kernel_rfl
theorem bs_36_0_59 {h : Heap} {qs : List (Nat × AV)} : bsE E h 59 36 0 (some qs) = match setParts (fun i => some (i * 20, 20)) ([]) qs with | some l => some (.lit 20 true l, h, none) | none => none := by kernel_rfl
theorem prs_60_4 : E.pairs 60 4 = [] := by kernel_rfl
theorem prs_61_6 : E.pairs 61 6 = [] := by kernel_rfl
theorem prs_62_8 : E.pairs 62 8 = [] := by kernel_rfl
theorem fo_67_1 : fieldOf E.P 67 1 = some (1, 1) := by kernel_rfl
theorem sz_65 : szOf E.P 65 = some 1 := by kernel_rfl
theorem agg_65 : aggT E.P 65 = some false := by kernel_rfl
theorem bs_65_1_66 {h : Heap} {qs : List (Nat × AV)} : bsE E h 66 65 1 (some qs) = match setParts (fun i => some (i * 1, 1)) ([.v (.int .u8 0)]) qs with | some l => some (.lit 1 true l, h, none) | none => none := by kernel_rfl
theorem ap_65_65 {h : Heap} {s x : AV} : appendE E.P E.zeros h #[65, 65] s x = apO h 5 1 1 s (srcEls E.P E.zeros h 65 5 1 x) := ap_at und_65 (by kernel_rfl) (by omega) (by omega)
theorem src_65 {h : Heap} {e k : Nat} {x : AV} : srcEls E.P E.zeros h 65 e k x = srS h k x := src_slice und_65
theorem ap_65_9 {h : Heap} {s x : AV} : appendE E.P E.zeros h #[65, 9] s x = apO h 5 1 1 s (srcEls E.P E.zeros h 9 5 1 x) := ap_at und_65 (by kernel_rfl) (by omega) (by omega)
theorem src_9 {h : Heap} {e : Nat} {s : ByteArray} : srcEls E.P E.zeros h 9 e 1 (.v (.string s)) = some (ofBytes s.data.toList) := src_str und_9
theorem prs_68_1 : E.pairs 68 1 = [(5, 8), (16, 18)] := by kernel_rfl
theorem sz_53 : szOf E.P 53 = some 16 := by kernel_rfl
theorem agg_53 : aggT E.P 53 = some true := by kernel_rfl
theorem prs_70_1 : E.pairs 70 1 = [(4, 8), (4, 9)] := by kernel_rfl
theorem ln_65 {h : Heap} {x : AV} : lenE E.P h #[65] x = match sliceLen x with | some n => some (vInt n, h, none, .pure) | none => none := len_slice und_65
theorem prs_71_1 : E.pairs 71 1 = [(5, 8)] := by kernel_rfl
theorem bs_65_1_73 {h : Heap} {qs : List (Nat × AV)} : bsE E h 73 65 1 (some qs) = match setParts (fun i => some (i * 1, 1)) ([.v (.int .u8 0)]) qs with | some l => some (.lit 1 true l, h, none) | none => none := by kernel_rfl
theorem prs_73_3 : E.pairs 73 3 = [(2, 8), (4, 8), (5, 8)] := by kernel_rfl
theorem bs_65_1_74 {h : Heap} {qs : List (Nat × AV)} : bsE E h 74 65 1 (some qs) = match setParts (fun i => some (i * 1, 1)) ([.v (.int .u8 0)]) qs with | some l => some (.lit 1 true l, h, none) | none => none := by kernel_rfl
theorem und_122 : E.P.underlying 122 = some (.int .u64) := by kernel_rfl
theorem cv_3_122 {h : Heap} {n : Int} : convE E.P h 3 122 (.v (.int .i64 n)) = some (.v (.int .u64 (IntKind.u64.wrap n)), h, none) := cv_int (d := .bool) und_3 und_122
theorem und_164 : E.P.underlying 164 = some (.slice 3) := by kernel_rfl
theorem ln_164 {h : Heap} {x : AV} : lenE E.P h #[164] x = match sliceLen x with | some n => some (vInt n, h, none, .pure) | none => none := len_slice und_164
theorem prs_89_3 : E.pairs 89 3 = [] := by kernel_rfl
theorem prs_91_8 : E.pairs 91 8 = [] := by kernel_rfl
theorem prs_91_2 : E.pairs 91 2 = [(4, 7)] := by kernel_rfl
theorem bs_36_1_91 {h : Heap} {qs : List (Nat × AV)} : bsE E h 91 36 1 (some qs) = match setParts (fun i => some (i * 20, 20)) ([.agg [.agg [.v (.bool false), .agg (List.replicate 16 (.v (.int .u8 0))), .v (.int .i64 0)], .v (.int .i64 0), .v (.int .u32 0)]]) qs with | some l => some (.sl h.length 0 0 1, h ++ [.row 20 0 l ⟨true, 58⟩], none) | none => none := by kernel_rfl
theorem bs_36_0_92 {h : Heap} {qs : List (Nat × AV)} : bsE E h 92 36 0 (some qs) = match setParts (fun i => some (i * 20, 20)) ([]) qs with | some l => some (.lit 20 true l, h, none) | none => none := by kernel_rfl
theorem prs_92_15 : E.pairs 92 15 = [] := by kernel_rfl
theorem bs_36_1_92 {h : Heap} {qs : List (Nat × AV)} : bsE E h 92 36 1 (some qs) = match setParts (fun i => some (i * 20, 20)) ([.agg [.agg [.v (.bool false), .agg (List.replicate 16 (.v (.int .u8 0))), .v (.int .i64 0)], .v (.int .i64 0), .v (.int .u32 0)]]) qs with | some l => some (.lit 20 true l, h, none) | none => none := by kernel_rfl
theorem prs_93_4 : E.pairs 93 4 = [(0, 3), (0, 8), (4, 8)] := by kernel_rfl
theorem bs_36_0_93 {h : Heap} {qs : List (Nat × AV)} : bsE E h 93 36 0 (some qs) = match setParts (fun i => some (i * 20, 20)) ([]) qs with | some l => some (.lit 20 true l, h, none) | none => none := by kernel_rfl
theorem ap_22_3 {h : Heap} {s x : AV} : appendE E.P E.zeros h #[22, 3] s x = apO h 60 21 56 s (srcEls E.P E.zeros h 3 60 21 x) := ap_at und_22 (by kernel_rfl) (by omega) (by omega)
theorem sz_105 : szOf E.P 105 = some 1 := by kernel_rfl
theorem agg_105 : aggT E.P 105 = some false := by kernel_rfl
theorem prs_98_8 : E.pairs 98 8 = [] := by kernel_rfl
theorem prs_98_10 : E.pairs 98 10 = [] := by kernel_rfl
theorem fo_67_0 : fieldOf E.P 67 0 = some (0, 1) := by kernel_rfl
theorem sz_64 : szOf E.P 64 = some 1 := by kernel_rfl
theorem agg_64 : aggT E.P 64 = some false := by kernel_rfl
theorem und_64 : E.P.underlying 64 = some (.pointer 67) := by kernel_rfl
theorem sz_67 : szOf E.P 67 = some 2 := by kernel_rfl
theorem pe_64 {ox oy : Operand} {id g i o : Nat} {p : List Nat} : binE E.P .eql 64 ox oy (.ptr id g i p o) (.v (.pointer none)) = some (.v (.bool false)) := ptr_eq und_64
theorem pn_64 {ox oy : Operand} {id g i o : Nat} {p : List Nat} : binE E.P .neq 64 ox oy (.ptr id g i p o) (.v (.pointer none)) = some (.v (.bool true)) := ptr_ne und_64
theorem ps_64 {ox oy : Operand} {id g i o : Nat} {p q : List Nat} : binE E.P .neq 64 ox oy (.ptr id g i p o) (.ptr id g i q o) = some (.v (.bool false)) := ptr_self_ne und_64 sz_67 (by omega)
theorem pz_64 {ox oy : Operand} : binE E.P .eql 64 ox oy (.v (.pointer none)) (.v (.pointer none)) = some (.v (.bool true)) := by kernel_rfl
theorem py_64 {ox oy : Operand} : binE E.P .neq 64 ox oy (.v (.pointer none)) (.v (.pointer none)) = some (.v (.bool false)) := by kernel_rfl
theorem und_172 : E.P.underlying 172 = some (.unsafePointer) := by kernel_rfl
theorem zero_53 : E.zero 53 = some (.agg (List.replicate 16 (.v (.int .u8 0)))) := by kernel_rfl
theorem prs_102_8 : E.pairs 102 8 = [] := by kernel_rfl
theorem bs_36_1_105 {h : Heap} {qs : List (Nat × AV)} : bsE E h 105 36 1 (some qs) = match setParts (fun i => some (i * 20, 20)) ([.agg [.agg [.v (.bool false), .agg (List.replicate 16 (.v (.int .u8 0))), .v (.int .i64 0)], .v (.int .i64 0), .v (.int .u32 0)]]) qs with | some l => some (.lit 20 true l, h, none) | none => none := by kernel_rfl
theorem prs_106_17 : E.pairs 106 17 = [] := by kernel_rfl
theorem cv_122_56 {h : Heap} {n : Int} : convE E.P h 122 56 (.v (.int .u64 n)) = some (.v (.int .u32 (IntKind.u32.wrap n)), h, none) := cv_int (d := .bool) und_122 und_56
theorem cv_122_3 {h : Heap} {n : Int} : convE E.P h 122 3 (.v (.int .u64 n)) = some (.v (.int .i64 (IntKind.i64.wrap n)), h, none) := cv_int (d := .bool) und_122 und_3
theorem prs_110_5 : E.pairs 110 5 = [] := by kernel_rfl
theorem prs_110_8 : E.pairs 110 8 = [] := by kernel_rfl
theorem prs_112_5 : E.pairs 112 5 = [] := by kernel_rfl
theorem ap_36_3 {h : Heap} {s x : AV} : appendE E.P E.zeros h #[36, 3] s x = apO h 58 20 48 s (srcEls E.P E.zeros h 3 58 20 x) := ap_at und_36 (by kernel_rfl) (by omega) (by omega)
theorem prs_113_11 : E.pairs 113 11 = [] := by kernel_rfl
theorem prs_113_15 : E.pairs 113 15 = [] := by kernel_rfl
theorem sz_110 : szOf E.P 110 = some 1 := by kernel_rfl
theorem agg_110 : aggT E.P 110 = some false := by kernel_rfl
theorem bs_110_1_114 {h : Heap} {qs : List (Nat × AV)} : bsE E h 114 110 1 (some qs) = match setParts (fun i => some (i * 18, 18)) ([.agg [.v (.bool false), .agg (List.replicate 16 (.v (.int .u8 0))), .v (.int .i64 0)]]) qs with | some l => some (.lit 18 true l, h, none) | none => none := by kernel_rfl
theorem ap_110_110 {h : Heap} {s x : AV} : appendE E.P E.zeros h #[110, 110] s x = apO h 55 18 32 s (srcEls E.P E.zeros h 110 55 18 x) := ap_at und_110 (by kernel_rfl) (by omega) (by omega)
theorem src_110 {h : Heap} {e k : Nat} {x : AV} : srcEls E.P E.zeros h 110 e k x = srS h k x := src_slice und_110
theorem prs_115_17 : E.pairs 115 17 = [] := by kernel_rfl
theorem prs_117_4 : E.pairs 117 4 = [] := by kernel_rfl
theorem prs_117_6 : E.pairs 117 6 = [] := by kernel_rfl
theorem prs_118_10 : E.pairs 118 10 = [] := by kernel_rfl
theorem und_189 : E.P.underlying 189 = some (.int .u64) := by kernel_rfl
theorem cv_3_189 {h : Heap} {n : Int} : convE E.P h 3 189 (.v (.int .i64 n)) = some (.v (.int .u64 (IntKind.u64.wrap n)), h, none) := cv_int (d := .bool) und_3 und_189
theorem zero_189 : E.zero 189 = some (.v (.int .u64 0)) := by kernel_rfl
theorem sz_189 : szOf E.P 189 = some 1 := by kernel_rfl
theorem prs_119_10 : E.pairs 119 10 = [] := by kernel_rfl
theorem prs_121_3 : E.pairs 121 3 = [] := by kernel_rfl
theorem prs_122_5 : E.pairs 122 5 = [] := by kernel_rfl
theorem prs_122_11 : E.pairs 122 11 = [] := by kernel_rfl
theorem prs_122_16 : E.pairs 122 16 = [] := by kernel_rfl
theorem prs_122_17 : E.pairs 122 17 = [] := by kernel_rfl
theorem prs_122_22 : E.pairs 122 22 = [] := by kernel_rfl
theorem prs_122_23 : E.pairs 122 23 = [] := by kernel_rfl
theorem prs_123_1 : E.pairs 123 1 = [] := by kernel_rfl
theorem prs_123_3 : E.pairs 123 3 = [] := by kernel_rfl
theorem prs_123_5 : E.pairs 123 5 = [] := by kernel_rfl
theorem prs_123_8 : E.pairs 123 8 = [] := by kernel_rfl
theorem prs_124_1 : E.pairs 124 1 = [] := by kernel_rfl
theorem prs_124_3 : E.pairs 124 3 = [] := by kernel_rfl
theorem prs_124_5 : E.pairs 124 5 = [] := by kernel_rfl
theorem prs_124_8 : E.pairs 124 8 = [] := by kernel_rfl
theorem prs_124_10 : E.pairs 124 10 = [] := by kernel_rfl
theorem prs_124_13 : E.pairs 124 13 = [] := by kernel_rfl
theorem prs_124_15 : E.pairs 124 15 = [] := by kernel_rfl
theorem prs_124_18 : E.pairs 124 18 = [] := by kernel_rfl
theorem prs_124_21 : E.pairs 124 21 = [] := by kernel_rfl
theorem cv_56_5 {h : Heap} {n : Int} : convE E.P h 56 5 (.v (.int .u32 n)) = some (.v (.int .u8 (IntKind.u8.wrap n)), h, none) := cv_int (d := .bool) und_56 und_5
theorem prs_129_4 : E.pairs 129 4 = [] := by kernel_rfl
theorem prs_129_6 : E.pairs 129 6 = [] := by kernel_rfl
theorem prs_130_10 : E.pairs 130 10 = [] := by kernel_rfl
theorem prs_131_10 : E.pairs 131 10 = [] := by kernel_rfl
theorem prs_133_3 : E.pairs 133 3 = [] := by kernel_rfl
theorem prs_134_5 : E.pairs 134 5 = [] := by kernel_rfl
theorem prs_134_11 : E.pairs 134 11 = [] := by kernel_rfl
theorem prs_134_16 : E.pairs 134 16 = [] := by kernel_rfl
theorem prs_134_17 : E.pairs 134 17 = [] := by kernel_rfl
theorem prs_134_22 : E.pairs 134 22 = [] := by kernel_rfl
theorem prs_134_23 : E.pairs 134 23 = [] := by kernel_rfl
theorem prs_135_1 : E.pairs 135 1 = [] := by kernel_rfl
theorem prs_135_3 : E.pairs 135 3 = [] := by kernel_rfl
theorem prs_135_5 : E.pairs 135 5 = [] := by kernel_rfl
theorem prs_135_8 : E.pairs 135 8 = [] := by kernel_rfl
theorem prs_136_1 : E.pairs 136 1 = [] := by kernel_rfl
theorem prs_136_3 : E.pairs 136 3 = [] := by kernel_rfl
theorem prs_136_5 : E.pairs 136 5 = [] := by kernel_rfl
theorem prs_136_8 : E.pairs 136 8 = [] := by kernel_rfl
theorem prs_136_10 : E.pairs 136 10 = [] := by kernel_rfl
theorem prs_136_13 : E.pairs 136 13 = [] := by kernel_rfl
theorem prs_136_15 : E.pairs 136 15 = [] := by kernel_rfl
theorem prs_136_18 : E.pairs 136 18 = [] := by kernel_rfl
theorem prs_136_21 : E.pairs 136 21 = [] := by kernel_rfl
theorem prs_137_3 : E.pairs 137 3 = [] := by kernel_rfl
theorem prs_137_5 : E.pairs 137 5 = [] := by kernel_rfl
theorem prs_137_6 : E.pairs 137 6 = [] := by kernel_rfl
theorem prs_139_1 : E.pairs 139 1 = [] := by kernel_rfl
theorem agg_189 : aggT E.P 189 = some false := by kernel_rfl
theorem prs_139_2 : E.pairs 139 2 = [] := by kernel_rfl
theorem prs_139_3 : E.pairs 139 3 = [] := by kernel_rfl
theorem prs_143_3 : E.pairs 143 3 = [] := by kernel_rfl
theorem prs_143_5 : E.pairs 143 5 = [] := by kernel_rfl
theorem prs_143_6 : E.pairs 143 6 = [] := by kernel_rfl
theorem prs_146_1 : E.pairs 146 1 = [] := by kernel_rfl
theorem prs_147_3 : E.pairs 147 3 = [] := by kernel_rfl
theorem prs_148_1 : E.pairs 148 1 = [] := by kernel_rfl
theorem keep_2 : E.keep 2 = false := by kernel_rfl
theorem keep_3 : E.keep 3 = false := by kernel_rfl
theorem keep_4 : E.keep 4 = false := by kernel_rfl
theorem keep_5 : E.keep 5 = false := by kernel_rfl
theorem keep_6 : E.keep 6 = false := by kernel_rfl
theorem keep_7 : E.keep 7 = false := by kernel_rfl
theorem keep_8 : E.keep 8 = false := by kernel_rfl
theorem keep_9 : E.keep 9 = false := by kernel_rfl
theorem keep_10 : E.keep 10 = false := by kernel_rfl
theorem keep_11 : E.keep 11 = false := by kernel_rfl
theorem keep_12 : E.keep 12 = false := by kernel_rfl
theorem keep_13 : E.keep 13 = false := by kernel_rfl
theorem keep_14 : E.keep 14 = false := by kernel_rfl
theorem keep_15 : E.keep 15 = false := by kernel_rfl
theorem keep_16 : E.keep 16 = false := by kernel_rfl
theorem keep_17 : E.keep 17 = true := by kernel_rfl
theorem keep_18 : E.keep 18 = false := by kernel_rfl
theorem keep_19 : E.keep 19 = false := by kernel_rfl
theorem keep_20 : E.keep 20 = false := by kernel_rfl
theorem keep_21 : E.keep 21 = false := by kernel_rfl
theorem keep_22 : E.keep 22 = false := by kernel_rfl
theorem keep_23 : E.keep 23 = false := by kernel_rfl
theorem keep_24 : E.keep 24 = false := by kernel_rfl
theorem keep_25 : E.keep 25 = false := by kernel_rfl
theorem keep_26 : E.keep 26 = false := by kernel_rfl
theorem keep_27 : E.keep 27 = false := by kernel_rfl
theorem keep_28 : E.keep 28 = false := by kernel_rfl
theorem keep_29 : E.keep 29 = false := by kernel_rfl
theorem keep_30 : E.keep 30 = false := by kernel_rfl
theorem keep_31 : E.keep 31 = false := by kernel_rfl
theorem keep_32 : E.keep 32 = false := by kernel_rfl
theorem keep_33 : E.keep 33 = false := by kernel_rfl
theorem keep_34 : E.keep 34 = false := by kernel_rfl
theorem keep_35 : E.keep 35 = false := by kernel_rfl
theorem keep_36 : E.keep 36 = false := by kernel_rfl
theorem keep_37 : E.keep 37 = false := by kernel_rfl
theorem keep_38 : E.keep 38 = false := by kernel_rfl
theorem keep_39 : E.keep 39 = false := by kernel_rfl
theorem keep_40 : E.keep 40 = false := by kernel_rfl
theorem keep_41 : E.keep 41 = false := by kernel_rfl
theorem keep_42 : E.keep 42 = false := by kernel_rfl
theorem keep_43 : E.keep 43 = false := by kernel_rfl
theorem keep_44 : E.keep 44 = false := by kernel_rfl
theorem keep_45 : E.keep 45 = false := by kernel_rfl
theorem keep_46 : E.keep 46 = true := by kernel_rfl
theorem keep_47 : E.keep 47 = false := by kernel_rfl
theorem keep_48 : E.keep 48 = false := by kernel_rfl
theorem keep_49 : E.keep 49 = false := by kernel_rfl
theorem keep_50 : E.keep 50 = true := by kernel_rfl
theorem keep_51 : E.keep 51 = true := by kernel_rfl
theorem keep_52 : E.keep 52 = false := by kernel_rfl
theorem keep_53 : E.keep 53 = false := by kernel_rfl
theorem keep_54 : E.keep 54 = true := by kernel_rfl
theorem keep_55 : E.keep 55 = false := by kernel_rfl
theorem keep_56 : E.keep 56 = false := by kernel_rfl
theorem keep_57 : E.keep 57 = false := by kernel_rfl
theorem keep_58 : E.keep 58 = false := by kernel_rfl
theorem keep_59 : E.keep 59 = false := by kernel_rfl
theorem keep_60 : E.keep 60 = false := by kernel_rfl
theorem keep_61 : E.keep 61 = false := by kernel_rfl
theorem keep_62 : E.keep 62 = false := by kernel_rfl
theorem keep_63 : E.keep 63 = false := by kernel_rfl
theorem keep_64 : E.keep 64 = false := by kernel_rfl
theorem keep_65 : E.keep 65 = false := by kernel_rfl
theorem keep_66 : E.keep 66 = false := by kernel_rfl
theorem keep_67 : E.keep 67 = false := by kernel_rfl
theorem keep_68 : E.keep 68 = false := by kernel_rfl
theorem keep_69 : E.keep 69 = false := by kernel_rfl
theorem keep_70 : E.keep 70 = false := by kernel_rfl
theorem keep_71 : E.keep 71 = false := by kernel_rfl
theorem keep_72 : E.keep 72 = false := by kernel_rfl
theorem keep_73 : E.keep 73 = false := by kernel_rfl
theorem keep_74 : E.keep 74 = false := by kernel_rfl
theorem keep_75 : E.keep 75 = false := by kernel_rfl
theorem keep_76 : E.keep 76 = false := by kernel_rfl
theorem keep_77 : E.keep 77 = false := by kernel_rfl
theorem keep_78 : E.keep 78 = false := by kernel_rfl
theorem keep_79 : E.keep 79 = false := by kernel_rfl
theorem keep_80 : E.keep 80 = false := by kernel_rfl
theorem keep_81 : E.keep 81 = false := by kernel_rfl
theorem keep_82 : E.keep 82 = false := by kernel_rfl
theorem keep_83 : E.keep 83 = true := by kernel_rfl
theorem keep_84 : E.keep 84 = false := by kernel_rfl
theorem keep_85 : E.keep 85 = false := by kernel_rfl
theorem keep_86 : E.keep 86 = false := by kernel_rfl
theorem keep_87 : E.keep 87 = false := by kernel_rfl
theorem keep_88 : E.keep 88 = false := by kernel_rfl
theorem keep_89 : E.keep 89 = false := by kernel_rfl
theorem keep_90 : E.keep 90 = false := by kernel_rfl
theorem keep_91 : E.keep 91 = false := by kernel_rfl
theorem keep_92 : E.keep 92 = false := by kernel_rfl
theorem keep_93 : E.keep 93 = false := by kernel_rfl
theorem keep_94 : E.keep 94 = true := by kernel_rfl
theorem keep_95 : E.keep 95 = false := by kernel_rfl
theorem keep_96 : E.keep 96 = false := by kernel_rfl
theorem keep_97 : E.keep 97 = false := by kernel_rfl
theorem keep_98 : E.keep 98 = false := by kernel_rfl
theorem keep_99 : E.keep 99 = false := by kernel_rfl
theorem keep_100 : E.keep 100 = false := by kernel_rfl
theorem keep_101 : E.keep 101 = false := by kernel_rfl
theorem keep_102 : E.keep 102 = false := by kernel_rfl
theorem keep_103 : E.keep 103 = false := by kernel_rfl
theorem keep_104 : E.keep 104 = false := by kernel_rfl
theorem keep_105 : E.keep 105 = false := by kernel_rfl
theorem keep_106 : E.keep 106 = false := by kernel_rfl
theorem keep_107 : E.keep 107 = false := by kernel_rfl
theorem keep_108 : E.keep 108 = false := by kernel_rfl
theorem keep_110 : E.keep 110 = false := by kernel_rfl
theorem keep_111 : E.keep 111 = false := by kernel_rfl
theorem keep_112 : E.keep 112 = true := by kernel_rfl
theorem keep_113 : E.keep 113 = true := by kernel_rfl
theorem keep_114 : E.keep 114 = false := by kernel_rfl
theorem keep_115 : E.keep 115 = false := by kernel_rfl
theorem keep_117 : E.keep 117 = false := by kernel_rfl
theorem keep_118 : E.keep 118 = false := by kernel_rfl
theorem keep_119 : E.keep 119 = false := by kernel_rfl
theorem keep_120 : E.keep 120 = false := by kernel_rfl
theorem keep_121 : E.keep 121 = false := by kernel_rfl
theorem keep_122 : E.keep 122 = false := by kernel_rfl
theorem keep_123 : E.keep 123 = false := by kernel_rfl
theorem keep_124 : E.keep 124 = false := by kernel_rfl
theorem keep_125 : E.keep 125 = false := by kernel_rfl
theorem keep_126 : E.keep 126 = false := by kernel_rfl
theorem keep_128 : E.keep 128 = false := by kernel_rfl
theorem keep_129 : E.keep 129 = false := by kernel_rfl
theorem keep_130 : E.keep 130 = false := by kernel_rfl
theorem keep_131 : E.keep 131 = false := by kernel_rfl
theorem keep_132 : E.keep 132 = false := by kernel_rfl
theorem keep_133 : E.keep 133 = false := by kernel_rfl
theorem keep_134 : E.keep 134 = false := by kernel_rfl
theorem keep_135 : E.keep 135 = false := by kernel_rfl
theorem keep_136 : E.keep 136 = false := by kernel_rfl
theorem keep_137 : E.keep 137 = false := by kernel_rfl
theorem keep_138 : E.keep 138 = false := by kernel_rfl
theorem keep_139 : E.keep 139 = false := by kernel_rfl
theorem keep_140 : E.keep 140 = false := by kernel_rfl
theorem keep_141 : E.keep 141 = false := by kernel_rfl
theorem keep_142 : E.keep 142 = false := by kernel_rfl
theorem keep_143 : E.keep 143 = false := by kernel_rfl
theorem keep_144 : E.keep 144 = false := by kernel_rfl
theorem keep_145 : E.keep 145 = false := by kernel_rfl
theorem keep_146 : E.keep 146 = false := by kernel_rfl
theorem keep_147 : E.keep 147 = false := by kernel_rfl
theorem keep_148 : E.keep 148 = false := by kernel_rfl
theorem E_masks : E.masks = masks := rfl
theorem rows_2 : E.rows 2 = false := rfl
theorem rows_3 : E.rows 3 = false := rfl
theorem rows_4 : E.rows 4 = false := rfl
theorem rows_5 : E.rows 5 = false := rfl
theorem rows_6 : E.rows 6 = false := rfl
theorem rows_7 : E.rows 7 = false := rfl
theorem rows_8 : E.rows 8 = false := rfl
theorem rows_9 : E.rows 9 = false := rfl
theorem rows_10 : E.rows 10 = false := rfl
theorem rows_11 : E.rows 11 = false := rfl
theorem rows_12 : E.rows 12 = false := rfl
theorem rows_13 : E.rows 13 = false := rfl
theorem rows_14 : E.rows 14 = false := rfl
theorem rows_15 : E.rows 15 = false := rfl
theorem rows_16 : E.rows 16 = false := rfl
theorem rows_17 : E.rows 17 = false := rfl
theorem rows_18 : E.rows 18 = false := rfl
theorem rows_19 : E.rows 19 = false := rfl
theorem rows_20 : E.rows 20 = false := rfl
theorem rows_21 : E.rows 21 = false := rfl
theorem rows_22 : E.rows 22 = false := rfl
theorem rows_23 : E.rows 23 = false := rfl
theorem rows_24 : E.rows 24 = false := rfl
theorem rows_25 : E.rows 25 = false := rfl
theorem rows_26 : E.rows 26 = false := rfl
theorem rows_27 : E.rows 27 = false := rfl
theorem rows_28 : E.rows 28 = false := rfl
theorem rows_29 : E.rows 29 = false := rfl
theorem rows_30 : E.rows 30 = false := rfl
theorem rows_31 : E.rows 31 = false := rfl
theorem rows_32 : E.rows 32 = false := rfl
theorem rows_33 : E.rows 33 = false := rfl
theorem rows_34 : E.rows 34 = false := rfl
theorem rows_35 : E.rows 35 = false := rfl
theorem rows_36 : E.rows 36 = false := rfl
theorem rows_37 : E.rows 37 = false := rfl
theorem rows_38 : E.rows 38 = false := rfl
theorem rows_39 : E.rows 39 = false := rfl
theorem rows_40 : E.rows 40 = false := rfl
theorem rows_41 : E.rows 41 = false := rfl
theorem rows_42 : E.rows 42 = false := rfl
theorem rows_43 : E.rows 43 = false := rfl
theorem rows_44 : E.rows 44 = false := rfl
theorem rows_45 : E.rows 45 = false := rfl
theorem rows_46 : E.rows 46 = false := rfl
theorem rows_47 : E.rows 47 = false := rfl
theorem rows_48 : E.rows 48 = false := rfl
theorem rows_49 : E.rows 49 = false := rfl
theorem rows_50 : E.rows 50 = false := rfl
theorem rows_51 : E.rows 51 = false := rfl
theorem rows_52 : E.rows 52 = false := rfl
theorem rows_53 : E.rows 53 = false := rfl
theorem rows_54 : E.rows 54 = false := rfl
theorem rows_55 : E.rows 55 = false := rfl
theorem rows_56 : E.rows 56 = false := rfl
theorem rows_57 : E.rows 57 = false := rfl
theorem rows_58 : E.rows 58 = false := rfl
theorem rows_59 : E.rows 59 = false := rfl
theorem rows_60 : E.rows 60 = false := rfl
theorem rows_61 : E.rows 61 = false := rfl
theorem rows_62 : E.rows 62 = false := rfl
theorem rows_63 : E.rows 63 = false := rfl
theorem rows_64 : E.rows 64 = false := rfl
theorem rows_65 : E.rows 65 = false := rfl
theorem rows_66 : E.rows 66 = false := rfl
theorem rows_67 : E.rows 67 = false := rfl
theorem rows_68 : E.rows 68 = false := rfl
theorem rows_69 : E.rows 69 = false := rfl
theorem rows_70 : E.rows 70 = false := rfl
theorem rows_71 : E.rows 71 = false := rfl
theorem rows_72 : E.rows 72 = false := rfl
theorem rows_73 : E.rows 73 = false := rfl
theorem rows_74 : E.rows 74 = false := rfl
theorem rows_75 : E.rows 75 = false := rfl
theorem rows_76 : E.rows 76 = false := rfl
theorem rows_77 : E.rows 77 = false := rfl
theorem rows_78 : E.rows 78 = false := rfl
theorem rows_79 : E.rows 79 = false := rfl
theorem rows_80 : E.rows 80 = false := rfl
theorem rows_81 : E.rows 81 = false := rfl
theorem rows_82 : E.rows 82 = false := rfl
theorem rows_83 : E.rows 83 = false := rfl
theorem rows_84 : E.rows 84 = false := rfl
theorem rows_85 : E.rows 85 = false := rfl
theorem rows_86 : E.rows 86 = false := rfl
theorem rows_87 : E.rows 87 = false := rfl
theorem rows_88 : E.rows 88 = false := rfl
theorem rows_89 : E.rows 89 = false := rfl
theorem rows_90 : E.rows 90 = false := rfl
theorem rows_91 : E.rows 91 = true := rfl
theorem rows_92 : E.rows 92 = false := rfl
theorem rows_93 : E.rows 93 = false := rfl
theorem rows_94 : E.rows 94 = false := rfl
theorem rows_95 : E.rows 95 = false := rfl
theorem rows_96 : E.rows 96 = false := rfl
theorem rows_97 : E.rows 97 = false := rfl
theorem rows_98 : E.rows 98 = false := rfl
theorem rows_99 : E.rows 99 = false := rfl
theorem rows_100 : E.rows 100 = false := rfl
theorem rows_101 : E.rows 101 = false := rfl
theorem rows_102 : E.rows 102 = false := rfl
theorem rows_103 : E.rows 103 = false := rfl
theorem rows_104 : E.rows 104 = false := rfl
theorem rows_105 : E.rows 105 = false := rfl
theorem rows_106 : E.rows 106 = false := rfl
theorem rows_107 : E.rows 107 = false := rfl
theorem rows_108 : E.rows 108 = false := rfl
theorem rows_110 : E.rows 110 = false := rfl
theorem rows_111 : E.rows 111 = false := rfl
theorem rows_112 : E.rows 112 = false := rfl
theorem rows_113 : E.rows 113 = false := rfl
theorem rows_114 : E.rows 114 = false := rfl
theorem rows_115 : E.rows 115 = false := rfl
theorem rows_117 : E.rows 117 = false := rfl
theorem rows_118 : E.rows 118 = false := rfl
theorem rows_119 : E.rows 119 = false := rfl
theorem rows_120 : E.rows 120 = false := rfl
theorem rows_121 : E.rows 121 = false := rfl
theorem rows_122 : E.rows 122 = false := rfl
theorem rows_123 : E.rows 123 = false := rfl
theorem rows_124 : E.rows 124 = false := rfl
theorem rows_125 : E.rows 125 = false := rfl
theorem rows_126 : E.rows 126 = false := rfl
theorem rows_128 : E.rows 128 = false := rfl
theorem rows_129 : E.rows 129 = false := rfl
theorem rows_130 : E.rows 130 = false := rfl
theorem rows_131 : E.rows 131 = false := rfl
theorem rows_132 : E.rows 132 = false := rfl
theorem rows_133 : E.rows 133 = false := rfl
theorem rows_134 : E.rows 134 = false := rfl
theorem rows_135 : E.rows 135 = false := rfl
theorem rows_136 : E.rows 136 = false := rfl
theorem rows_137 : E.rows 137 = false := rfl
theorem rows_138 : E.rows 138 = false := rfl
theorem rows_139 : E.rows 139 = false := rfl
theorem rows_140 : E.rows 140 = false := rfl
theorem rows_141 : E.rows 141 = false := rfl
theorem rows_142 : E.rows 142 = false := rfl
theorem rows_143 : E.rows 143 = false := rfl
theorem rows_144 : E.rows 144 = false := rfl
theorem rows_145 : E.rows 145 = false := rfl
theorem rows_146 : E.rows 146 = false := rfl
theorem rows_147 : E.rows 147 = false := rfl
theorem rows_148 : E.rows 148 = false := rfl

end Go.Proofs.YtobdjegooonklaaGreat
