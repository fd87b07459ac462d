/- The seat's abstract machine, whole. Conditions: none. -/
import Derived.Test.YtobdjegooonklaaGreatAmSeat1
import Derived.Test.YtobdjegooonklaaGreatAmOne
import Derived.Test.YtobdjegooonklaaGreatAmSortR
import Derived.Test.YtobdjegooonklaaGreatAmIns
import Derived.KernelRfl
namespace Go.Proofs.YtobdjegooonklaaGreat
open Go Go.AM

noncomputable def ov : FuncId → Option Ov := fun f => match f with
  | 116 => some ovSelf
  | 109 => some ovBytesCompare
  | 127 => some ovApart
  | 105 => some (ovVals 85 20 58)
  | 84 => some (ovSort 48)
  | 113 => some Early.ovIns
  | 114 => some (ovOneKey 97 18 55)
  | _ => none
noncomputable def E : Env := ⟨Tryz.prog, zeros, masks, fun f => Nat.beq f 91, keep, pairs, ov⟩

theorem prog_ok : E.ProgOK := progOK_of (by kernel_rfl)

theorem body97 : ∃ j0 p01 p02 j1 p11 p12 j2 p21 p22 p23 p24 j3 p31 p32 p33 p34, Tryz.f97.body = some (.seq (.region j0 #[p01, p02] false) (.block 0 (.loop (.seq (.region j1 #[p11, p12] false) (.seq (.cond (.tmp 7) .skip (.exit 0)) (.block 1 (.seq (.region j2 #[p21, p22, p23, p24] false) (.seq (.region j3 #[p31, p32, p33, p34] false) (.cond (.tmp 13) .ret .skip))))))))) ∧
    KeyOps 105 55 4 p01 p02 p11 p12 p21 p22 p23 p24 p31 p32 p33 p34 :=
  ⟨_, _, _, _, _, _, _, _, _, _, _, _, _, _, _, _, rfl, ⟨⟨rfl, rfl, rfl⟩, ⟨rfl, rfl, rfl⟩, ⟨rfl, rfl, rfl⟩, ⟨rfl, rfl, rfl⟩, ⟨rfl, rfl, rfl⟩, ⟨rfl, rfl, rfl⟩, ⟨rfl, rfl, rfl⟩, ⟨rfl, rfl, rfl⟩, ⟨rfl, rfl, rfl⟩, ⟨rfl, rfl, rfl⟩, ⟨rfl, rfl, rfl⟩, ⟨rfl, rfl, rfl⟩⟩⟩

theorem ov114 : OvOK Tryz.prog 114 (ovOneKey 97 18 55) := by
  obtain ⟨i0, o0, i1, o1, iA, oA, iB, oB, i4, o4, hb, R⟩ := body114
  obtain ⟨j0, p01, p02, j1, p11, p12, j2, p21, p22, p23, p24, j3, p31, p32, p33, p34, hb97, O⟩ := body97
  refine ovOneKey_ok (E := E0) e0_ok.zeros R Tryz.func114 hb rfl rfl (enters Tryz.func114 hb rfl) (enters Tryz.func97 hb97 rfl) fun h0 id gen i o p es cl mid hl hm hn hlt hk hmost => ?_
  exact iter_keys (E := E0) e0_ok.zeros O (z := z55) (by kernel_rfl) (by kernel_rfl) s55 a55 (by kernel_rfl) (by kernel_rfl) (kt := 55) (et := 108) (by kernel_rfl) (by omega) Tryz.func97 rfl rfl hb97 hl hm hn hlt hk hmost

theorem ovs : E.OvsOK := by
  intro f o ho
  change ov f = some o at ho
  unfold ov at ho
  split at ho
  · injection ho with ho; subst ho; exact ovSelf_ok self116
  · injection ho with ho; subst ho; exact ovBytesCompare_ok comp109
  · injection ho with ho; subst ho; exact ov127
  · injection ho with ho; subst ho; exact ov105
  · injection ho with ho; subst ho; exact ovSort_ok
  · injection ho with ho; subst ho; exact Early.ovIns_ok
  · injection ho with ho; subst ho; exact ov114
  · cases ho

/-- THE ABSTRACT MACHINE IS SOUND. -/
theorem e_ok : E.OK := ⟨mixed, zeros_ok, prog_ok, ovs⟩

theorem awake_true : call E 300 10 [] [] = some (.v (.bool true), [], ⟨[], [], true⟩) := by kernel_rfl

end Go.Proofs.YtobdjegooonklaaGreat
