/- Regions whose order is drawn, second part: the whole region. Conditions: none. -/
import Derived.Test.YtobdjegooonklaaGreatAmDraw
set_option linter.unusedVariables false
set_option linter.unusedSimpArgs false
namespace Go.AM
open Go

variable {F : Fz} {m : Mp} {fr : FR} {a : Act} {h : Heap} {w : World} {P : Program}

/-! ### What an order must keep -/
def edgesOf (o : Oper) : List Nat := (o.after.toList.filter (Region.binds .any)).map (·.on)
def bitsOf (acc : List Nat) (o : Oper) : Nat := (edgesOf o).foldl (fun b e => Nat.lor b (Nat.lor (2 ^ e) (acc.getD e 0))) 0
def reachL : List Oper → List Nat → List Nat
  | [], acc => acc
  | o :: os, acc => reachL os (acc ++ [bitsOf acc o])

def stat (o : Oper) : Nat := match o.op with
  | .move _ | .assign _ | .pick _ _ _ | .build _ _ | .nilCheck _ | .binOp _ _ _ _ _ | .unOp _ _ _ | .makeFunc _ _ _ | .fieldAddr _ _ _ | .field _ _ _ | .index _ _ _ | .extract _ _ => 0
  | .load _ _ | .lookup _ _ _ _ | .convert _ _ _ | .slice _ _ _ _ _ | .indexAddr _ _ _ => 1
  | .call c => match c.callee with
    | .builtin b => match b with
      | .len | .cap | .min | .max | .real | .imag | .complex => 1
      | _ => 2
    | _ => 2
  | _ => 2

def hasPair (i j : Nat) : List (Nat × Nat) → Bool
  | [] => false
  | (a, b) :: r => (Nat.beq a i && Nat.beq b j) || hasPair i j r

def pairOK (ops : Array Oper) (prs : List (Nat × Nat)) (i j : Nat) (x y : Oper) : Bool :=
  x.apart ops y && (Nat.beq (stat x) 0 || Nat.beq (stat y) 0 || (Nat.ble (stat x) 1 && Nat.ble (stat y) 1) || hasPair i j prs)

def rowOK (ops : Array Oper) (prs : List (Nat × Nat)) (b j : Nat) (y : Oper) : Nat → List Oper → Bool
  | _, [] => true
  | i, x :: l => (bif Nat.blt i j then (b.testBit i || pairOK ops prs i j x y) else true) && rowOK ops prs b j y (i + 1) l

def allOK (ops : Array Oper) (prs : List (Nat × Nat)) (R : List Nat) : Nat → List Oper → Bool
  | _, [] => true
  | j, y :: l => (edgesOf y).all (fun e => Nat.blt e j) && rowOK ops prs (R.getD j 0) j y 0 ops.toList && allOK ops prs R (j + 1) l

def drawOK (ops : Array Oper) (prs : List (Nat × Nat)) : Bool := allOK ops prs (reachL ops.toList []) 0 ops.toList

def Closed (ops : Array Oper) (S : Nat → Bool) : Prop := ∀ i o, ops[i]? = some o → S i = true → ∀ e ∈ edgesOf o, S e = true

theorem bits_foldl (acc : List Nat) (j : Nat) : ∀ (l : List Nat) (b : Nat), (l.foldl (fun b e => Nat.lor b (Nat.lor (2 ^ e) (acc.getD e 0))) b).testBit j = true →
    b.testBit j = true ∨ ∃ e ∈ l, j = e ∨ (acc.getD e 0).testBit j = true
  | [], b, h => .inl h
  | e :: l, b, h => by
    rw [List.foldl_cons] at h
    rcases bits_foldl acc j l _ h with h | ⟨e', h1, h2⟩
    · change (b ||| (2 ^ e ||| acc.getD e 0)).testBit j = true at h
      rw [Nat.testBit_or, Nat.testBit_or, Nat.testBit_two_pow] at h
      simp only [Bool.or_eq_true, decide_eq_true_eq] at h
      rcases h with h | h | h
      · exact .inl h
      · exact .inr ⟨e, by simp, .inl h.symm⟩
      · exact .inr ⟨e, by simp, .inr h⟩
    · exact .inr ⟨e', by simp [h1], h2⟩

def ReachInv (ops : Array Oper) (acc : List Nat) : Prop := ∀ (i b : Nat) (o : Oper), acc[i]? = some b → ops[i]? = some o → ∀ S, Closed ops S → (∀ e ∈ edgesOf o, S e = true) → ∀ j, b.testBit j = true → S j = true

theorem reachL_inv (ops : Array Oper) : ∀ (os : List Oper) (acc : List Nat), (∀ j, os[j]? = ops[acc.length + j]?) → acc.length ≤ ops.size → ReachInv ops acc → ReachInv ops (reachL os acc)
  | [], acc, _, _, h => h
  | o :: os, acc, ho, hs, h => by
    have h0 : ops[acc.length]? = some o := by have := ho 0; simpa using this.symm
    refine reachL_inv ops os _ (fun j => ?_) ?_ ?_
    · have := ho (j + 1)
      rw [List.getElem?_cons_succ] at this
      rw [this]
      simp only [List.length_append, List.length_singleton]
      congr 1
      omega
    · have := (Array.getElem?_eq_some_iff.1 h0).1
      simp only [List.length_append, List.length_singleton]
      omega
    · intro i b o' hb ho' S hS he j hj
      rcases Nat.lt_or_ge i acc.length with hi | hi
      · rw [List.getElem?_append_left hi] at hb
        exact h i b o' hb ho' S hS he j hj
      · rw [List.getElem?_append_right hi] at hb
        have hi0 : i - acc.length = 0 := by
          rcases Nat.eq_zero_or_pos (i - acc.length) with h | h
          · exact h
          · rw [List.getElem?_eq_none (by simp; omega)] at hb; cases hb
        have : i = acc.length := by omega
        subst this
        rw [h0] at ho'
        injection ho' with ho'
        subst ho'
        rw [hi0] at hb
        simp only [List.getElem?_cons_zero, Option.some.injEq] at hb
        subst hb
        rcases bits_foldl acc j _ _ hj with hz | ⟨e, e1, e2⟩
        · simp at hz
        · have se := he e e1
          rcases e2 with rfl | e2
          · exact se
          · cases hg : acc[e]? with
            | none => rw [List.getD_eq_getElem?_getD, hg] at e2; simp at e2
            | some b' =>
              rw [List.getD_eq_getElem?_getD, hg] at e2
              have hlt : e < acc.length := (List.getElem?_eq_some_iff.1 hg).1
              have hoe : ops[e]? = some ops[e] := Array.getElem?_eq_getElem (by omega)
              exact h e b' _ hg hoe S hS (hS e _ hoe se) j e2

theorem reachL_len : ∀ (os : List Oper) (acc : List Nat), (reachL os acc).length = acc.length + os.length
  | [], acc => rfl
  | o :: os, acc => by simp [reachL, reachL_len os]; omega

theorem rowOK_spec {ops : Array Oper} {prs : List (Nat × Nat)} {b j : Nat} {y : Oper} : ∀ (l : List Oper) (i0 : Nat), rowOK ops prs b j y i0 l = true → ∀ k x, l[k]? = some x → i0 + k < j → b.testBit (i0 + k) = true ∨ pairOK ops prs (i0 + k) j x y = true
  | [], _, _, k, x, hx, _ => by simp at hx
  | z :: l, i0, h, k, x, hx, hlt => by
    simp only [rowOK, Bool.and_eq_true] at h
    cases k with
    | zero =>
      simp only [List.getElem?_cons_zero, Option.some.injEq] at hx
      subst hx
      have hb : Nat.blt i0 j = true := by simpa [Nat.blt_eq] using hlt
      have := h.1
      rw [hb] at this
      simpa using this
    | succ k =>
      rw [List.getElem?_cons_succ] at hx
      have := rowOK_spec l (i0 + 1) h.2 k x hx (by omega)
      rw [show i0 + (k + 1) = i0 + 1 + k by omega]
      exact this

theorem allOK_spec {ops : Array Oper} {prs : List (Nat × Nat)} {R : List Nat} : ∀ (l : List Oper) (j0 : Nat), allOK ops prs R j0 l = true → ∀ k y, l[k]? = some y →
    (∀ e ∈ edgesOf y, e < j0 + k) ∧ rowOK ops prs (R.getD (j0 + k) 0) (j0 + k) y 0 ops.toList = true
  | [], _, _, k, x, hx => by simp at hx
  | z :: l, j0, h, k, y, hy => by
    simp only [allOK, Bool.and_eq_true] at h
    cases k with
    | zero =>
      simp only [List.getElem?_cons_zero, Option.some.injEq] at hy
      subst hy
      refine ⟨fun e he => ?_, h.1.2⟩
      have := List.all_eq_true.1 h.1.1 e he
      simpa [Nat.blt_eq] using this
    | succ k =>
      rw [List.getElem?_cons_succ] at hy
      have := allOK_spec l (j0 + 1) h.2 k y hy
      rw [show j0 + (k + 1) = j0 + 1 + k by omega]
      exact this

/-- What the check gives. -/
theorem drawOK_spec {ops : Array Oper} {prs : List (Nat × Nat)} (h : drawOK ops prs = true) {j : Nat} {y : Oper} (hy : ops[j]? = some y) :
    (∀ e ∈ edgesOf y, e < j) ∧ ∀ i x, ops[i]? = some x → i < j → pairOK ops prs i j x y = true ∨ ∀ S, Closed ops S → (∀ e ∈ edgesOf y, S e = true) → S i = true := by
  have hy' : ops.toList[j]? = some y := by simpa using hy
  obtain ⟨h1, h2⟩ := allOK_spec ops.toList 0 h j y hy'
  rw [Nat.zero_add] at h1 h2
  refine ⟨h1, fun i x hx hlt => ?_⟩
  have hx' : ops.toList[i]? = some x := by simpa using hx
  have := rowOK_spec ops.toList 0 h2 i x hx' (by omega)
  rw [Nat.zero_add] at this
  rcases this with h | h
  · right
    intro S hS he
    have hj : j < (reachL ops.toList []).length := by rw [reachL_len]; have := (Array.getElem?_eq_some_iff.1 hy).1; simpa using this
    have hg : (reachL ops.toList [])[j]? = some ((reachL ops.toList []).getD j 0) := by
      rw [List.getD_eq_getElem?_getD, List.getElem?_eq_getElem hj]; rfl
    exact reachL_inv ops ops.toList [] (fun k => by simp) (by simp) (fun i b o hb => by simp at hb) j _ y hg hy S hS he i h
  · exact .inl h

end Go.AM
