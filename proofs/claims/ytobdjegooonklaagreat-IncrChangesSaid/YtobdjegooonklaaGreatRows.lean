/-
  No cell of these rows narrows 'for every input' (looked for: loops, veiled, ifaces, maps, wideKeys, modest, calm, conditions, laid).
  DERIVED. THE GIVEN ROWS OF THIS SEAT. 7 by the template 'for every input the law returns true; each argument reads behind the call as it read before'; 0 by the template 'total and deterministic' (their statements: YtobdjegooonklaaGreatTotals.lean).
  GIVEN WITH THE SEED: the statements are not yours to turn. If you find one false, say at which input.
  Laid BY PROGRAM, IN A SANDBOX (cutbox-rows.mjs): the forced cells as the released guide's own fill.sh prints them over the translation 8f0a52e6bf63d7ce… (all of the seat's roots in one cut). By AI agents, Wed Nov 11 2026. No macro, syntax, notation, axiom, sorry.
-/
import Derived.Test.YtobdjegooonklaaGreatChecked
import GoSem.Claim
import GoSem.ClaimJoined
import GoSem.ClaimMapViews
import Derived.JoinedTies
import Derived.KernelRfl
namespace Go.Proofs.YtobdjegooonklaaGreat
/- THE CELL 'sum', in the pinned program and in every row, IS THE sha256 OF THE DUMP (.gsa) THAT YtobdjegooonklaaGreatProg.lean LOADS. Nothing in Lean hashes anything: it is a label: what it is worth is what the hold of that sum in a sandbox is worth. -/
noncomputable def Tryz.pinned : Pinned := { name := "ytobdjegooonklaagreat", sum := "8f0a52e6bf63d7ced00102891234c60bf9071b4aa77400df23c58831275a8d7d", checked := Tryz.checked }
namespace Rows
def none {H : Type} : Left H := { results := [], args := [] }

/-- 'signpostlaw08.IncrPrints': WHATEVER THE INPUT: true; the input reads as it did. -/
def incrPrintsSpec : ChangeSpec := { name := "incrPrints", fn := fun _ => fun
  | [d] => { results := [.lit (.bool true)], args := [d] }
  | _ => none }
def incrPrintsRow : OpenClaim := { program := "ytobdjegooonklaagreat", sum := "8f0a52e6bf63d7ced00102891234c60bf9071b4aa77400df23c58831275a8d7d", func := "signpost/signpostlaw08.IncrPrints", spec := "incrPrints", inPlace := ["internal/abi.NoEscape", "internal/bytealg.Compare", "slices.overlaps[signpost/api.Route]"], unfollowed := true, recurses := true, plainKeys := false, apart := false }
def IncrPrintsSaid : Prop := incrPrintsRow.holds Tryz.pinned (OpenSpec.ofChange incrPrintsSpec)

/-- ITS FALSE NEIGHBOUR: 'it returns false'. Refute it at one input. -/
def incrPrintsWrong : ChangeSpec := { name := "incrPrints", fn := fun _ => fun
  | [d] => { results := [.lit (.bool false)], args := [d] }
  | _ => none }
def IncrPrintsWrongFalsely : Prop := incrPrintsRow.holds Tryz.pinned (OpenSpec.ofChange incrPrintsWrong)

/-- 'signpostlaw08.IncrReads': WHATEVER THE INPUT: true; the input reads as it did. -/
def incrReadsSpec : ChangeSpec := { name := "incrReads", fn := fun _ => fun
  | [d] => { results := [.lit (.bool true)], args := [d] }
  | _ => none }
def incrReadsRow : OpenClaim := { program := "ytobdjegooonklaagreat", sum := "8f0a52e6bf63d7ced00102891234c60bf9071b4aa77400df23c58831275a8d7d", func := "signpost/signpostlaw08.IncrReads", spec := "incrReads", inPlace := ["internal/abi.NoEscape", "internal/bytealg.Compare", "slices.overlaps[signpost/api.Route]"], unfollowed := true, recurses := true, plainKeys := false, apart := false }
def IncrReadsSaid : Prop := incrReadsRow.holds Tryz.pinned (OpenSpec.ofChange incrReadsSpec)

/-- ITS FALSE NEIGHBOUR: 'it returns false'. Refute it at one input. -/
def incrReadsWrong : ChangeSpec := { name := "incrReads", fn := fun _ => fun
  | [d] => { results := [.lit (.bool false)], args := [d] }
  | _ => none }
def IncrReadsWrongFalsely : Prop := incrReadsRow.holds Tryz.pinned (OpenSpec.ofChange incrReadsWrong)

/-- 'signpostlaw08.IncrFolds': WHATEVER THE INPUT: true; the input reads as it did. -/
def incrFoldsSpec : ChangeSpec := { name := "incrFolds", fn := fun _ => fun
  | [d1, d2] => { results := [.lit (.bool true)], args := [d1, d2] }
  | _ => none }
def incrFoldsRow : OpenClaim := { program := "ytobdjegooonklaagreat", sum := "8f0a52e6bf63d7ced00102891234c60bf9071b4aa77400df23c58831275a8d7d", func := "signpost/signpostlaw08.IncrFolds", spec := "incrFolds", inPlace := ["internal/abi.NoEscape", "internal/bytealg.Compare", "slices.overlaps[signpost/api.Route]"], unfollowed := true, recurses := true, plainKeys := false, apart := false }
def IncrFoldsSaid : Prop := incrFoldsRow.holds Tryz.pinned (OpenSpec.ofChange incrFoldsSpec)

/-- ITS FALSE NEIGHBOUR: 'it returns false'. Refute it at one input. -/
def incrFoldsWrong : ChangeSpec := { name := "incrFolds", fn := fun _ => fun
  | [d1, d2] => { results := [.lit (.bool false)], args := [d1, d2] }
  | _ => none }
def IncrFoldsWrongFalsely : Prop := incrFoldsRow.holds Tryz.pinned (OpenSpec.ofChange incrFoldsWrong)

/-- 'signpostlaw08.IncrNil': WHATEVER THE INPUT: true; the input reads as it did. -/
def incrNilSpec : ChangeSpec := { name := "incrNil", fn := fun _ => fun
  | [d] => { results := [.lit (.bool true)], args := [d] }
  | _ => none }
def incrNilRow : OpenClaim := { program := "ytobdjegooonklaagreat", sum := "8f0a52e6bf63d7ced00102891234c60bf9071b4aa77400df23c58831275a8d7d", func := "signpost/signpostlaw08.IncrNil", spec := "incrNil", inPlace := ["internal/abi.NoEscape", "internal/bytealg.Compare", "slices.overlaps[signpost/api.Route]"], unfollowed := true, recurses := true, plainKeys := false, apart := false }
def IncrNilSaid : Prop := incrNilRow.holds Tryz.pinned (OpenSpec.ofChange incrNilSpec)

/-- ITS FALSE NEIGHBOUR: 'it returns false'. Refute it at one input. -/
def incrNilWrong : ChangeSpec := { name := "incrNil", fn := fun _ => fun
  | [d] => { results := [.lit (.bool false)], args := [d] }
  | _ => none }
def IncrNilWrongFalsely : Prop := incrNilRow.holds Tryz.pinned (OpenSpec.ofChange incrNilWrong)

/-- 'signpostlaw08.IncrMerges': WHATEVER THE INPUT: true; the input reads as it did. -/
def incrMergesSpec : ChangeSpec := { name := "incrMerges", fn := fun _ => fun
  | [d1, d2, d3] => { results := [.lit (.bool true)], args := [d1, d2, d3] }
  | _ => none }
def incrMergesRow : OpenClaim := { program := "ytobdjegooonklaagreat", sum := "8f0a52e6bf63d7ced00102891234c60bf9071b4aa77400df23c58831275a8d7d", func := "signpost/signpostlaw08.IncrMerges", spec := "incrMerges", inPlace := ["internal/abi.NoEscape", "internal/bytealg.Compare", "slices.overlaps[signpost/api.Route]"], unfollowed := true, recurses := true, plainKeys := false, apart := false }
def IncrMergesSaid : Prop := incrMergesRow.holds Tryz.pinned (OpenSpec.ofChange incrMergesSpec)

/-- ITS FALSE NEIGHBOUR: 'it returns false'. Refute it at one input. -/
def incrMergesWrong : ChangeSpec := { name := "incrMerges", fn := fun _ => fun
  | [d1, d2, d3] => { results := [.lit (.bool false)], args := [d1, d2, d3] }
  | _ => none }
def IncrMergesWrongFalsely : Prop := incrMergesRow.holds Tryz.pinned (OpenSpec.ofChange incrMergesWrong)

/-- 'signpostlaw08.IncrRows': WHATEVER THE INPUT: true; the input reads as it did. -/
def incrRowsSpec : ChangeSpec := { name := "incrRows", fn := fun _ => fun
  | [d1, d2, d3] => { results := [.lit (.bool true)], args := [d1, d2, d3] }
  | _ => none }
def incrRowsRow : OpenClaim := { program := "ytobdjegooonklaagreat", sum := "8f0a52e6bf63d7ced00102891234c60bf9071b4aa77400df23c58831275a8d7d", func := "signpost/signpostlaw08.IncrRows", spec := "incrRows", inPlace := ["internal/abi.NoEscape", "internal/bytealg.Compare", "slices.overlaps[signpost/api.Route]"], unfollowed := true, recurses := true, plainKeys := false, apart := false }
def IncrRowsSaid : Prop := incrRowsRow.holds Tryz.pinned (OpenSpec.ofChange incrRowsSpec)

/-- ITS FALSE NEIGHBOUR: 'it returns false'. Refute it at one input. -/
def incrRowsWrong : ChangeSpec := { name := "incrRows", fn := fun _ => fun
  | [d1, d2, d3] => { results := [.lit (.bool false)], args := [d1, d2, d3] }
  | _ => none }
def IncrRowsWrongFalsely : Prop := incrRowsRow.holds Tryz.pinned (OpenSpec.ofChange incrRowsWrong)

/-- 'signpostlaw08.IncrChanges': WHATEVER THE INPUT: true; the input reads as it did. -/
def incrChangesSpec : ChangeSpec := { name := "incrChanges", fn := fun _ => fun
  | [d1, d2] => { results := [.lit (.bool true)], args := [d1, d2] }
  | _ => none }
def incrChangesRow : OpenClaim := { program := "ytobdjegooonklaagreat", sum := "8f0a52e6bf63d7ced00102891234c60bf9071b4aa77400df23c58831275a8d7d", func := "signpost/signpostlaw08.IncrChanges", spec := "incrChanges", inPlace := ["internal/abi.NoEscape", "internal/bytealg.Compare", "slices.overlaps[signpost/api.Route]"], unfollowed := true, recurses := true, plainKeys := false, apart := false }
def IncrChangesSaid : Prop := incrChangesRow.holds Tryz.pinned (OpenSpec.ofChange incrChangesSpec)

/-- ITS FALSE NEIGHBOUR: 'it returns false'. Refute it at one input. -/
def incrChangesWrong : ChangeSpec := { name := "incrChanges", fn := fun _ => fun
  | [d1, d2] => { results := [.lit (.bool false)], args := [d1, d2] }
  | _ => none }
def IncrChangesWrongFalsely : Prop := incrChangesRow.holds Tryz.pinned (OpenSpec.ofChange incrChangesWrong)

/- THE SECOND FORM. 'bulk': how many values and letters a reading holds, each counted each time it is reached (what is shared counts as often as it is met; a slice's spare places count too). A statement '..UptoSaid' is the law's where the arguments, and the package variables that the reading takes, are together of bulk at most 1048576: NARROWER than '..Said'. Prove '..Said' where nothing that the law and all that it calls make is longer than what came in: it says more and counts as full. Else prove '..UptoSaid'. A law counts once. -/
mutual
def uptoBulk {H : Type} : DataW H → Nat
  | .lit (.string bytes) => bytes.length + 1
  | .lit _ => 1
  | .nil => 1
  | .ptr d => uptoBulk d + 1
  | .slice elems spare => uptoBulkAll elems + uptoBulkAll spare + 1
  | .agg parts => uptoBulkAll parts + 1
  | .iface _ d => uptoBulk d + 1
  | .map entries => uptoBulkEntries entries + 1
  | .held _ => 1
def uptoBulkAll {H : Type} : List (DataW H) → Nat
  | [] => 0
  | d :: r => uptoBulk d + uptoBulkAll r
def uptoBulkEntries {H : Type} : List (Lit × DataW H) → Nat
  | [] => 0
  | x :: r => uptoBulkEntry x + uptoBulkEntries r
def uptoBulkEntry {H : Type} : Lit × DataW H → Nat
  | (.string bytes, d) => bytes.length + uptoBulk d + 1
  | (_, d) => uptoBulk d + 1
 end
def uptoSmall : (H : Type) → List (DataW H) → Bool := fun _ ds => decide (uptoBulkAll ds ≤ 1048576)
def OpenSpec.upto (s : _root_.Go.ChangeSpec) : _root_.Go.OpenSpec := { _root_.Go.OpenSpec.ofChange s with cond := some uptoSmall }

/-- 'signpostlaw08.IncrPrints', WHERE WHAT IT READS IS OF BULK AT MOST 1048576: true; the input reads as it did. -/
def incrPrintsUptoRow : OpenClaim := { program := "ytobdjegooonklaagreat", sum := "8f0a52e6bf63d7ced00102891234c60bf9071b4aa77400df23c58831275a8d7d", func := "signpost/signpostlaw08.IncrPrints", spec := "incrPrints", inPlace := ["internal/abi.NoEscape", "internal/bytealg.Compare", "slices.overlaps[signpost/api.Route]"], unfollowed := true, recurses := true, plainKeys := false, apart := false, narrowed := true }
def IncrPrintsUptoSaid : Prop := incrPrintsUptoRow.holds Tryz.pinned (OpenSpec.upto incrPrintsSpec)

/-- 'signpostlaw08.IncrReads', WHERE WHAT IT READS IS OF BULK AT MOST 1048576: true; the input reads as it did. -/
def incrReadsUptoRow : OpenClaim := { program := "ytobdjegooonklaagreat", sum := "8f0a52e6bf63d7ced00102891234c60bf9071b4aa77400df23c58831275a8d7d", func := "signpost/signpostlaw08.IncrReads", spec := "incrReads", inPlace := ["internal/abi.NoEscape", "internal/bytealg.Compare", "slices.overlaps[signpost/api.Route]"], unfollowed := true, recurses := true, plainKeys := false, apart := false, narrowed := true }
def IncrReadsUptoSaid : Prop := incrReadsUptoRow.holds Tryz.pinned (OpenSpec.upto incrReadsSpec)

/-- 'signpostlaw08.IncrFolds', WHERE WHAT IT READS IS OF BULK AT MOST 1048576: true; the input reads as it did. -/
def incrFoldsUptoRow : OpenClaim := { program := "ytobdjegooonklaagreat", sum := "8f0a52e6bf63d7ced00102891234c60bf9071b4aa77400df23c58831275a8d7d", func := "signpost/signpostlaw08.IncrFolds", spec := "incrFolds", inPlace := ["internal/abi.NoEscape", "internal/bytealg.Compare", "slices.overlaps[signpost/api.Route]"], unfollowed := true, recurses := true, plainKeys := false, apart := false, narrowed := true }
def IncrFoldsUptoSaid : Prop := incrFoldsUptoRow.holds Tryz.pinned (OpenSpec.upto incrFoldsSpec)

/-- 'signpostlaw08.IncrNil', WHERE WHAT IT READS IS OF BULK AT MOST 1048576: true; the input reads as it did. -/
def incrNilUptoRow : OpenClaim := { program := "ytobdjegooonklaagreat", sum := "8f0a52e6bf63d7ced00102891234c60bf9071b4aa77400df23c58831275a8d7d", func := "signpost/signpostlaw08.IncrNil", spec := "incrNil", inPlace := ["internal/abi.NoEscape", "internal/bytealg.Compare", "slices.overlaps[signpost/api.Route]"], unfollowed := true, recurses := true, plainKeys := false, apart := false, narrowed := true }
def IncrNilUptoSaid : Prop := incrNilUptoRow.holds Tryz.pinned (OpenSpec.upto incrNilSpec)

/-- 'signpostlaw08.IncrMerges', WHERE WHAT IT READS IS OF BULK AT MOST 1048576: true; the input reads as it did. -/
def incrMergesUptoRow : OpenClaim := { program := "ytobdjegooonklaagreat", sum := "8f0a52e6bf63d7ced00102891234c60bf9071b4aa77400df23c58831275a8d7d", func := "signpost/signpostlaw08.IncrMerges", spec := "incrMerges", inPlace := ["internal/abi.NoEscape", "internal/bytealg.Compare", "slices.overlaps[signpost/api.Route]"], unfollowed := true, recurses := true, plainKeys := false, apart := false, narrowed := true }
def IncrMergesUptoSaid : Prop := incrMergesUptoRow.holds Tryz.pinned (OpenSpec.upto incrMergesSpec)

/-- 'signpostlaw08.IncrRows', WHERE WHAT IT READS IS OF BULK AT MOST 1048576: true; the input reads as it did. -/
def incrRowsUptoRow : OpenClaim := { program := "ytobdjegooonklaagreat", sum := "8f0a52e6bf63d7ced00102891234c60bf9071b4aa77400df23c58831275a8d7d", func := "signpost/signpostlaw08.IncrRows", spec := "incrRows", inPlace := ["internal/abi.NoEscape", "internal/bytealg.Compare", "slices.overlaps[signpost/api.Route]"], unfollowed := true, recurses := true, plainKeys := false, apart := false, narrowed := true }
def IncrRowsUptoSaid : Prop := incrRowsUptoRow.holds Tryz.pinned (OpenSpec.upto incrRowsSpec)

/-- 'signpostlaw08.IncrChanges', WHERE WHAT IT READS IS OF BULK AT MOST 1048576: true; the input reads as it did. -/
def incrChangesUptoRow : OpenClaim := { program := "ytobdjegooonklaagreat", sum := "8f0a52e6bf63d7ced00102891234c60bf9071b4aa77400df23c58831275a8d7d", func := "signpost/signpostlaw08.IncrChanges", spec := "incrChanges", inPlace := ["internal/abi.NoEscape", "internal/bytealg.Compare", "slices.overlaps[signpost/api.Route]"], unfollowed := true, recurses := true, plainKeys := false, apart := false, narrowed := true }
def IncrChangesUptoSaid : Prop := incrChangesUptoRow.holds Tryz.pinned (OpenSpec.upto incrChangesSpec)

end Rows
end Go.Proofs.YtobdjegooonklaaGreat
