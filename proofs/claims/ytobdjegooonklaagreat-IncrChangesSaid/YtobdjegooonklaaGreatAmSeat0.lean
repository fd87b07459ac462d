/- The seat's abstract machine, without what it answers itself. Conditions: none. -/
import Derived.Test.YtobdjegooonklaaGreatAmEnv
import Derived.Test.YtobdjegooonklaaGreatAmIn
import Derived.Test.YtobdjegooonklaaGreatAmRuns
import Derived.KernelRfl
namespace Go.Proofs.YtobdjegooonklaaGreat
open Go Go.AM

noncomputable def ov0 : FuncId → Option Ov := fun f => match f with
  | 116 => some ovSelf
  | 109 => some ovBytesCompare
  | 127 => some ovApart
  | _ => none
def keep : FuncId → Bool := fun f => f == 94 || f == 50 || f == 17 || f == 51 || f == 112 || f == 113 || f == 54 || f == 83 || f == 46
noncomputable def E0 : Env := ⟨Tryz.prog, zeros, masks, fun _ => false, keep, pairs, ov0⟩

theorem mixed : E0.P.follows .mixedOrders = true := by kernel_rfl
theorem prog_ok0 : E0.ProgOK := progOK_of (by kernel_rfl)
theorem zeros_some : zeros.all (fun p => (toV p.2).isSome) = true := by kernel_rfl
theorem zeros_same : zeros.map (fun p => toV p.2) = zeros.map (fun p => (Tryz.prog.info? p.1).bind (·.zero)) := by kernel_rfl

theorem assoc_mem : ∀ {l : List (TypeId × AV)} {t : TypeId} {z : AV}, assoc l t = some z → ∃ i : Nat, l[i]? = some (t, z)
  | [], t, z, h => by simp [assoc] at h
  | (k, x) :: l, t, z, h => by
    simp only [assoc] at h
    cases hb : Nat.beq k t with
    | true =>
      have := Nat.eq_of_beq_eq_true hb
      subst this
      simp only [hb, cond_true, Option.some.injEq] at h
      subst h
      exact ⟨0, rfl⟩
    | false =>
      simp only [hb, cond_false] at h
      obtain ⟨i, hi⟩ := assoc_mem h
      exact ⟨i + 1, by simpa using hi⟩

theorem zeros_ok : ∀ t z, assoc zeros t = some z → ∃ i v, Tryz.prog.info? t = some i ∧ i.zero = some v ∧ toV z = some v := by
  intro t z h
  obtain ⟨i, hi⟩ := assoc_mem h
  have h1 : toV z = (Tryz.prog.info? t).bind (·.zero) := by
    have := congrArg (·[i]?) zeros_same
    simpa [List.getElem?_map, hi] using this
  have h2 : (toV z).isSome = true := List.all_eq_true.1 zeros_some (t, z) (List.mem_of_getElem? hi)
  cases hv : toV z with
  | none => rw [hv] at h2; cases h2
  | some v =>
    rw [hv] at h1
    cases hin : Tryz.prog.info? t with
    | none => rw [hin] at h1; cases h1
    | some inf =>
      rw [hin] at h1
      exact ⟨inf, v, rfl, h1.symm, rfl⟩

theorem self116 : ∀ v w, (callFunc 116 #[v]).run Tryz.prog w = .ok (.value v) w := fun v w => by kernel_rfl
theorem comp109 : ∀ v u w, (callFunc 109 #[v, u]).run Tryz.prog w = (do pure (.value (← Extern.BytealgCompare.compare #[v, u])) : Sem Next).run Tryz.prog w := fun v u w => by kernel_rfl

theorem apart127 : ∀ v u w, (callFunc 127 #[v, u]).run Tryz.prog w = (do pure (.value (← Extern.SlicesOverlaps.overlaps #[36, 36] #[4] #[v, u])) : Sem Next).run Tryz.prog w := fun v u w => by kernel_rfl
theorem ov127 : OvOK Tryz.prog 127 ovApart := ovApart_ok (e := 58) (size := 20) (by kernel_rfl) (fun w => prun_run _ _ (by kernel_rfl) w) apart127

theorem ovs0 : E0.OvsOK := by
  intro f o ho
  change ov0 f = some o at ho
  unfold ov0 at ho
  split at ho
  · injection ho with ho; subst ho; exact ovSelf_ok self116
  · injection ho with ho; subst ho; exact ovBytesCompare_ok comp109
  · injection ho with ho; subst ho; exact ov127
  · cases ho

theorem e0_ok : E0.OK := ⟨mixed, zeros_ok, prog_ok0, ovs0⟩

end Go.Proofs.YtobdjegooonklaaGreat
