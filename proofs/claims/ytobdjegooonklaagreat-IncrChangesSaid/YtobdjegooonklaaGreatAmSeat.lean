/- The seat's abstract machine, whole. Conditions: none. -/
import Derived.Test.YtobdjegooonklaaGreatAmSeat1
import Derived.Test.YtobdjegooonklaaGreatAmOne
import Derived.Test.YtobdjegooonklaaGreatAmSortP
import Derived.Test.YtobdjegooonklaaGreatAmIns
import Derived.KernelRfl
namespace Go.Proofs.YtobdjegooonklaaGreat
open Go Go.AM

noncomputable def ov : FuncId → Option Ov := fun f => match f with
  | 116 => some ovSelf
  | 109 => some ovBytesCompare
  | 127 => some ovApart
  | 105 => some (ovVals 85 20 58)
  | 84 => some (ovSort 48)
  | 113 => some Early.ovIns
  | 55 => some (ovKeys 97 49)
  | _ => none
noncomputable def E : Env := ⟨Tryz.prog, zeros, masks, fun f => Nat.beq f 91, keep, pairs, ov⟩

theorem prog_ok : E.ProgOK := progOK_of (by kernel_rfl)

theorem ovs : E.OvsOK := by
  intro f o ho
  change ov f = some o at ho
  unfold ov at ho
  split at ho
  · injection ho with ho; subst ho; exact ovSelf_ok self116
  · injection ho with ho; subst ho; exact ovBytesCompare_ok comp109
  · injection ho with ho; subst ho; exact ov127
  · injection ho with ho; subst ho; exact ov105
  · injection ho with ho; subst ho; exact ovSort_ok
  · injection ho with ho; subst ho; exact Early.ovIns_ok
  · injection ho with ho; subst ho; exact ovKeys_ok
  · cases ho

/-- THE ABSTRACT MACHINE IS SOUND. -/
theorem e_ok : E.OK := ⟨mixed, zeros_ok, prog_ok, ovs⟩

theorem awake_true : call E 300 10 [] [] = some (.v (.bool true), [], ⟨[], [], true⟩) := by kernel_rfl

end Go.Proofs.YtobdjegooonklaaGreat
