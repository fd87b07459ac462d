/- Folding one row behind another; two tables held against each other. Conditions: none. -/
import Derived.Test.YtobdjegooonklaaGreatAmOut
set_option linter.unusedSimpArgs false
set_option linter.unusedVariables false
set_option maxRecDepth 100000
set_option maxHeartbeats 1000000
namespace Go.Proofs.YtobdjegooonklaaGreat
open Go Go.AM

theorem foldT_count : ∀ (L : List Inc) (l : List Route) (k m : Nat), foldT l L (k + m) = ((foldT l L k).1, (foldT l L k).2.1 + m, (foldT l L k).2.2)
  | [], l, k, m => rfl
  | i :: L, l, k, m => by
    simp only [foldT]
    split
    · rw [← foldT_count L _ (k + 1) m]
      congr 1
      omega
    · rfl
theorem foldT_app : ∀ (A B : List Inc) (l : List Route) (k : Nat), foldT l (A ++ B) k = if (foldT l A k).2.2 = 0 then foldT (foldT l A k).1 B (foldT l A k).2.1 else foldT l A k
  | [], B, l, k => by simp [foldT]
  | i :: A, B, l, k => by
    simp only [List.cons_append, foldT]
    split
    · exact foldT_app A B _ _
    · rfl

theorem c23 (n : Nat) (h : Heap) (t u : Nat) (s r : AV) (a b : List Route) (ht : h[t]? = some (.row 1 0 [.agg [s]] ⟨true, 99⟩)) (hu : h[u]? = some (.row 1 0 [.agg [r]] ⟨true, 99⟩)) (va : RV h s a) (vb : RV h r b) (ha : ∀ i ∈ a, i.ok) (hb : ∀ i ∈ b, i.ok) (la : a.length < 490) (lb : b.length < 490) :
    call E (n + 502) 23 [.ptr t 0 0 [] 0, .ptr u 0 0 [] 0] h = some (.v (.bool (decide (a = b))), h, ⟨[], [], true⟩) := by
  obtain ⟨s1, H1, e1, d1⟩ := c17 n h t s a ht va la
  obtain ⟨g1, q1⟩ := d1.old
  obtain ⟨s2, H2, e2, d2⟩ := c17 n H1 u r b (by rw [q1 u (lt_of_getElem? hu)]; exact hu) (vb.stay q1) lb
  obtain ⟨g2, q2⟩ := d2.old
  have e3 := fun m => c61 m H2 s1 s2 a b (d1.rv.stay q2) d2.rv ha hb la
  rw [call_at (E := E) (f := 23) (fn := Tryz.f23) rfl Tryz.func23 rfl (Nat.le_of_ble_eq_true rfl)]
  simp -implicitDefEqProofs only [simA, Nat.reduceAdd, Nat.reduceLT, Nat.reduceEqDiff, Nat.reduceLeDiff, Nat.reduceMul, Int.reduceBEq, Int.reduceBNe, Int.reduceLT, Int.reduceLE, Int.reduceAdd, Int.reduceSub, Int.reduceMul, Int.reduceNeg, Nat.reduceSub, Nat.reducePow, Nat.reduceDiv, Nat.reduceMod, keep_23, E_masks, masks, rows_23, Tryz.f23, e1, e2, e3]

theorem foldT_le : ∀ (L : List Inc) (l : List Route) (k : Nat), (foldT l L k).2.1 ≤ k + L.length
  | [], l, k => by simp [foldT]
  | i :: L, l, k => by
    simp only [foldT]
    split
    · have := foldT_le L (doT l i).1 (k + 1)
      simp only [List.length_cons]
      omega
    · simp

end Go.Proofs.YtobdjegooonklaaGreat
