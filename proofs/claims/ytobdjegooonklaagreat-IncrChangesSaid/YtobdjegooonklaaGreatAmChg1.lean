/- The changes between two tables: what the program does. Conditions: none. -/
import Derived.Test.YtobdjegooonklaaGreatAmMerge3
set_option linter.unusedSimpArgs false
set_option linter.unusedVariables false
set_option maxRecDepth 100000
set_option maxHeartbeats 1000000
namespace Go.Proofs.YtobdjegooonklaaGreat
open Go Go.AM

/-- The changes that make one of the other. -/
def chg : List Route → List Route → List Inc
  | [], [] => []
  | [], y :: b => ⟨1, y⟩ :: chg [] b
  | x :: a, [] => ⟨3, bare x.to⟩ :: chg a []
  | x :: a, y :: b => if cmpP x.to y.to < 0 then ⟨3, bare x.to⟩ :: chg a (y :: b) else if 0 < cmpP x.to y.to then ⟨1, y⟩ :: chg (x :: a) b else (if x = y then [] else [⟨2, y⟩]) ++ chg a b
termination_by a b => a.length + b.length

/-- What is left of a copy. -/
def Rem (H : Heap) (x : AV) (l : List Route) : Prop := (l = [] ∧ sliceLen x = some 0) ∨ (l ≠ [] ∧ ∃ id g off els ex, x = .sl id g off l.length ∧ H[id]? = some (.row 20 g els ex) ∧ els.drop off = l.map Route.av)
theorem Rem.len {H : Heap} {x : AV} {l : List Route} (r : Rem H x l) : sliceLen x = some l.length := by
  rcases r with ⟨rfl, h⟩ | ⟨_, id, g, off, els, ex, rfl, _, _⟩
  · exact h
  · rfl
theorem Rem.stay {H H' : Heap} {x : AV} {l : List Route} (r : Rem H x l) {m0 : Nat} (hm : ∀ id g off n, x = .sl id g off n → id < m0) (h : ∀ j, j < m0 → H'[j]? = H[j]?) : Rem H' x l := by
  rcases r with r | ⟨hne, id, g, off, els, ex, hx, hr, hd⟩
  · exact .inl r
  · exact .inr ⟨hne, id, g, off, els, ex, hx, by rw [h id (hm _ _ _ _ hx)]; exact hr, hd⟩

theorem rem_at {H : Heap} {id g off : Nat} {els : List AV} {ex : Tag} {a : Route} {l : List Route} (hr : H[id]? = some (.row 20 g els ex)) (hd : els.drop off = (a :: l).map Route.av) : indexAddrE E.P H 36 (.sl id g off (l.length + 1)) (.v (.int .i64 0)) = some (.ptr id g off [] 0) ∧ els[off]? = some a.av ∧
    ∃ x', sliceE E.P H 36 (.sl id g off (l.length + 1)) (some (.v (.int .i64 1))) none none = some x' ∧ Rem H x' l ∧ ∀ i g' o n, x' = .sl i g' o n → i = id := by
  have h0 : els[off]? = some a.av := by
    have := congrArg (·[0]?) hd
    simpa using this
  have h1 : els.drop (off + 1) = l.map Route.av := by
    have := congrArg (List.drop 1) hd
    rw [List.drop_drop] at this
    simpa using this
  have h2 : (0 : Int) < ((l.length + 1 : Nat) : Int) := by omega
  have h3 : (1 : Int) ≤ ((l.length + 1 : Nat) : Int) := by omega
  refine ⟨by simp [indexAddrE, und_36, sz_58, idx, hr], h0, .sl id g (off + 1) l.length, ?_, ?_, fun i g' o n h => by injection h with h; exact h.symm⟩
  · have e : l.length + 1 - 1 = l.length := by omega
    have h4 : (1 : Int) ≤ (l.length : Int) + 1 := by omega
    simp [sliceE, und_36, sz_58, hr, bound, h4, beqE]
  · by_cases hl : l = []
    · subst hl; exact .inl ⟨rfl, rfl⟩
    · exact .inr ⟨hl, id, g, off + 1, els, ex, rfl, hr, h1⟩

end Go.Proofs.YtobdjegooonklaaGreat
