/- Closed facts for the machine without what it answers of the seat: by gen_cmp.py. Conditions: none. -/
import Derived.Test.YtobdjegooonklaaGreatAmSeat0
import Derived.Test.YtobdjegooonklaaGreatAmSim
import Derived.Test.YtobdjegooonklaaGreatAmOrd
set_option linter.unusedVariables false
namespace Go.Proofs.YtobdjegooonklaaGreat.Early
open Go Go.AM

noncomputable def E : Env := E0
theorem e_ok : E.OK := e0_ok
theorem ov_109 : E.ov 109 = some ovBytesCompare := rfl
theorem ov_127 : E.ov 127 = some ovApart := rfl
theorem fo_58_0 : fieldOf E.P 58 0 = some (0, 18) := by kernel_rfl
theorem sz_55 : szOf E.P 55 = some 18 := by kernel_rfl
theorem agg_55 : aggT E.P 55 = some true := by kernel_rfl
theorem keep_48 : E.keep 48 = false := by kernel_rfl
theorem E_masks : E.masks = masks := rfl
theorem rows_48 : E.rows 48 = false := rfl
theorem prs_49_1 : E.pairs 49 1 = [(1, 2), (1, 6), (3, 6), (4, 6), (1, 8), (3, 8), (4, 8), (1, 11), (3, 11), (4, 11), (9, 11), (1, 13), (3, 13), (4, 13), (9, 13)] := by kernel_rfl
theorem fo_55_1 : fieldOf E.P 55 1 = some (1, 16) := by kernel_rfl
theorem und_53 : E.P.underlying 53 = some (.array 16 5) := by kernel_rfl
theorem sz_5 : szOf E.P 5 = some 1 := by kernel_rfl
theorem agg_5 : aggT E.P 5 = some false := by kernel_rfl
theorem fo_55_2 : fieldOf E.P 55 2 = some (17, 1) := by kernel_rfl
theorem sz_3 : szOf E.P 3 = some 1 := by kernel_rfl
theorem agg_3 : aggT E.P 3 = some false := by kernel_rfl
theorem bs_164_3_49 {h : Heap} {qs : List (Nat × AV)} : bsE E h 49 164 3 (some qs) = match setParts (fun i => some (i * 1, 1)) ([.v (.int .i64 0), .v (.int .i64 0), .v (.int .i64 0)]) qs with | some l => some (.lit 1 true l, h, none) | none => none := by kernel_rfl
theorem keep_49 : E.keep 49 = false := by kernel_rfl
theorem rows_49 : E.rows 49 = false := rfl
theorem fo_55_0 : fieldOf E.P 55 0 = some (0, 1) := by kernel_rfl
theorem sz_4 : szOf E.P 4 = some 1 := by kernel_rfl
theorem agg_4 : aggT E.P 4 = some false := by kernel_rfl
theorem keep_69 : E.keep 69 = false := by kernel_rfl
theorem rows_69 : E.rows 69 = false := rfl
theorem und_164 : E.P.underlying 164 = some (.slice 3) := by kernel_rfl
theorem ln_164 {h : Heap} {x : AV} : lenE E.P h #[164] x = match sliceLen x with | some n => some (vInt n, h, none, .pure) | none => none := len_slice und_164
theorem keep_86 : E.keep 86 = false := by kernel_rfl
theorem rows_86 : E.rows 86 = false := rfl
theorem keep_87 : E.keep 87 = false := by kernel_rfl
theorem rows_87 : E.rows 87 = false := rfl
theorem keep_88 : E.keep 88 = false := by kernel_rfl
theorem rows_88 : E.rows 88 = false := rfl
theorem keep_108 : E.keep 108 = false := by kernel_rfl
theorem rows_108 : E.rows 108 = false := rfl
theorem und_36 : E.P.underlying 36 = some (.slice 58) := by kernel_rfl
theorem sz_58 : szOf E.P 58 = some 20 := by kernel_rfl
theorem ln_36 {h : Heap} {x : AV} : lenE E.P h #[36] x = match sliceLen x with | some n => some (vInt n, h, none, .pure) | none => none := len_slice und_36
theorem ap_36_36 {h : Heap} {s x : AV} : appendE E.P E.zeros h #[36, 36] s x = apO h 58 20 48 s (srcEls E.P E.zeros h 36 58 20 x) := ap_at und_36 (by kernel_rfl) (by omega) (by omega)
theorem src_36 {h : Heap} {e k : Nat} {x : AV} : srcEls E.P E.zeros h 36 e k x = srS h k x := src_slice und_36
theorem ap_36_3 {h : Heap} {s x : AV} : appendE E.P E.zeros h #[36, 3] s x = apO h 58 20 48 s (srcEls E.P E.zeros h 3 58 20 x) := ap_at und_36 (by kernel_rfl) (by omega) (by omega)
theorem prs_113_11 : E.pairs 113 11 = [] := by kernel_rfl
theorem prs_113_15 : E.pairs 113 15 = [] := by kernel_rfl
theorem keep_113 : E.keep 113 = true := by kernel_rfl
theorem rows_113 : E.rows 113 = false := rfl

end Go.Proofs.YtobdjegooonklaaGreat.Early
