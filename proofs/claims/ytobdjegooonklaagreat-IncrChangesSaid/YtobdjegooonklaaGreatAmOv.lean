/- What the abstract machine does at calls of Go's library that it does not run. Conditions: none. -/
import Derived.Test.YtobdjegooonklaaGreatAmCore
namespace Go.AM
open Go

abbrev Ov := List AV → Heap → Option (AV × Heap × Eff)

/-- Its argument again. -/
def ovSelf : Ov := fun args h => match args with
  | [x] => some (x, h, ⟨[], [], true⟩)
  | _ => none

/-- Two rows of bytes compared. -/
def ovBytesCompare : Ov := fun args h => match args with
  | [x, y] => match strOf h x, strOf h y with
    | some a, some b => some (.v (.int .i64 (Extern.BytealgCompare.cmp a b)), h, ⟨[], [], true⟩)
    | _, _ => none
  | _ => none

end Go.AM
