/- Maps whose keys are prefixes: sought and written. Conditions: none. -/
import Derived.Test.YtobdjegooonklaaGreatAmTypes2
set_option linter.unusedVariables false
set_option linter.unusedSimpArgs false
set_option maxRecDepth 100000
namespace Go.AM
open Go
section
variable {E : Env} {K : CallK} {f : FuncId} {fr : FR} {h : Heap} {dst : Option Tmp} {ty : TypeId} {ps : String} {af : Array Edge} {g : Option (Nat × Bool)}
def luO (E : Env) (h : Heap) (t : TypeId) (ok : Bool) (m k : Option AV) : Option Out := match m, k with
  | some m', some k => match lookupE E h t m' k ok with
      | some y => some (outOf y h none (match m' with | .map id => .rd (some id) | _ => .pure))
      | none => none
  | _, _ => none
theorem luO_some {t : TypeId} {ok : Bool} {id : Nat} {k : AV} : luO E h t ok (some (.map id)) (some k) = match lookupE E h t (.map id) k ok with
      | some y => some ⟨y, h, .rd (some id), [], []⟩
      | none => none := rfl
theorem core_lu {t : TypeId} {m k : Operand} {ok : Bool} : coreO E K f ⟨dst, .lookup t m k ok, ty, ps, af, g⟩ fr h = luO E h t ok (ev fr m) (ev fr k) := by
  unfold coreO luO
  simp only
  cases ev fr m with
  | none => rfl
  | some a => cases ev fr k <;> rfl
def muO (E : Env) (h : Heap) (t : TypeId) (m k x : Option AV) : Option Out := match m, k, x with
  | some m, some k, some x => match updateE E h t m k x with
      | some (h', id) => some (outOf (.tup []) h' (some (id, !idfree x)) .w)
      | none => none
  | _, _, _ => none
theorem muO_some {t : TypeId} {m k x : AV} : muO E h t (some m) (some k) (some x) = match updateE E h t m k x with
      | some (h', id) => some ⟨.tup [], h', .w, [id], bif !idfree x then [id] else []⟩
      | none => none := rfl
theorem core_mu {t : TypeId} {m k x : Operand} : coreO E K f ⟨dst, .mapUpdate t m k x, ty, ps, af, g⟩ fr h = muO E h t (ev fr m) (ev fr k) (ev fr x) := by
  unfold coreO muO
  simp only
  cases ev fr m with
  | none => rfl
  | some a => cases ev fr k with
    | none => rfl
    | some b => cases ev fr x <;> rfl

theorem prun_findKey {P : Program} {kt : TypeId} {fs : Array Field} (hu : P.underlying kt = some (.struct fs)) (k : Value) (es : List MapEntry) : prun P (Instr.findKey kt k es) = prun P (Instr.findAsking kt k es) := by
  unfold Instr.findKey
  rw [prun_bind, prun_underlying hu]
  cases es with
  | nil => rfl
  | cons e es => simp [Instr.findNow, Instr.sameNow]
end
end Go.AM

namespace Go.Proofs.YtobdjegooonklaaGreat
open Go Go.AM Go.Deep

/-- What became of a prefix. -/
structure Ef where
  was : Bool
  is : Bool
  r : Route
deriving instance DecidableEq for Ef
def Ef.av (e : Ef) : AV := .agg [.v (.bool e.was), .v (.bool e.is), e.r.av]
def zPre : Pre := ⟨false, List.replicate 16 0, 0⟩
def zRoute : Route := ⟨zPre, 0, 0⟩
def zEf : Ef := ⟨false, false, zRoute⟩
theorem zero_ef : E.zero 108 = some zEf.av := by kernel_rfl
theorem zero_pre : E.zero 55 = some zPre.av := by kernel_rfl
theorem Ef.leafs {e : Ef} (h : e.r.ok) : AM.leafs e.av = 22 := by simp [Ef.av, AM.leafs, leafsL, Route.leafs h]
theorem zRoute_ok : zRoute.ok := by unfold zRoute zPre Route.ok Pre.ok i64; simp

abbrev Eff3 := List (Pre × Ef)
def entsF : Nat → Eff3 → List (AV × AV × Nat)
  | _, [] => []
  | b, (p, e) :: l => (p.av, e.av, b) :: entsF (b + 1) l
def keysF : Nat → Eff3 → List MapEntry
  | _, [] => []
  | b, (p, _) :: l => ⟨.agg p.cells.toArray, .nilFunc, b⟩ :: keysF (b + 1) l
def seekP (p : Pre) : Eff3 → Nat → Option Nat
  | [], _ => none
  | (q, _) :: l, i => if p = q then some i else seekP p l (i + 1)

theorem keysV_ents : ∀ (L : Eff3) (b : Nat), keysV (entsF b L) = some (keysF b L)
  | [], _ => rfl
  | (p, e) :: L, b => by simp only [entsF, keysV, p.toV, keysV_ents L (b + 1), keysF]

theorem chk16 (s em : Bool) (n : Int) (b0 b1 b2 b3 b4 b5 b6 b7 b8 b9 b10 b11 b12 b13 b14 b15 : UInt8) : prun E.P (Instr.checkKey em 10000 55 (.agg (Pre.cells ⟨s, [b0, b1, b2, b3, b4, b5, b6, b7, b8, b9, b10, b11, b12, b13, b14, b15], n⟩).toArray)) = some () := by kernel_rfl
theorem chk_pre {p : Pre} (hp : p.ok) (em : Bool) : prun E.P (Instr.checkKey em 10000 55 (.agg p.cells.toArray)) = some () := by
  obtain ⟨s, ad, n⟩ := p
  have hl : ad.length = 16 := hp.1
  match ad, hl with
  | [b0, b1, b2, b3, b4, b5, b6, b7, b8, b9, b10, b11, b12, b13, b14, b15], _ => exact chk16 s em n b0 b1 b2 b3 b4 b5 b6 b7 b8 b9 b10 b11 b12 b13 b14 b15

theorem asking {p : Pre} (hp : p.ok) : ∀ (L : Eff3) (b i : Nat), (∀ q ∈ L, q.1.ok) → prun E.P (Instr.findAsking 55 (.agg p.cells.toArray) (keysF b L) i) = some ((seekP p L i).map fun j => (j, .nilFunc))
  | [], _, _, _ => rfl
  | (q, e) :: L, b, i, hL => by
    have h1 := hL _ (List.mem_cons_self ..)
    have ih := asking hp L (b + 1) (i + 1) fun q hq => hL q (List.mem_cons_of_mem _ hq)
    simp only [keysF, Instr.findAsking, prun_bind]
    have := eqn55 9997 p q hp h1
    unfold Op.equal Op.maxDepth
    rw [this]
    simp only [seekP]
    by_cases hpq : p = q
    · simp [hpq, prun_pure]
    · simp [hpq, ih]

theorem find_ents {p : Pre} (hp : p.ok) {L : Eff3} (hL : ∀ q ∈ L, q.1.ok) (em : Bool) : findE E.P 55 em (entsF 0 L) p.av = some (seekP p L 0) := by
  have hu : E.P.underlying 55 = Tryz.prog.underlying 55 := rfl
  have e := prun_findKey (P := E.P) (hu.trans Tryz.underlying55) (.agg p.cells.toArray) (keysF 0 L)
  unfold findE
  simp only [keysV_ents, p.toV, prun_bind, chk_pre hp em, e, asking hp L 0 0 hL]
  cases seekP p L 0 <;> rfl

def lookP (L : Eff3) (p : Pre) : Option Ef := match L with
  | [] => none
  | (q, e) :: L => if p = q then some e else lookP L p
theorem seek_look {p : Pre} : ∀ {L : Eff3} {i : Nat}, match seekP p L i with
    | some j => i ≤ j ∧ ∃ e, L[j - i]? = some (p, e) ∧ lookP L p = some e
    | none => lookP L p = none ∧ ∀ q ∈ L, q.1 ≠ p
  | [], _ => ⟨rfl, by simp⟩
  | (q, e) :: L, i => by
    by_cases hpq : p = q
    · subst hpq
      simp only [seekP, if_true]
      exact ⟨Nat.le_refl _, e, by simp, by simp [lookP]⟩
    · have ih := seek_look (p := p) (L := L) (i := i + 1)
      simp only [seekP, if_neg hpq]
      cases hs : seekP p L (i + 1) with
      | some j =>
        rw [hs] at ih
        obtain ⟨h1, e', h2, h3⟩ := ih
        refine ⟨by omega, e', ?_, by simp only [lookP, if_neg hpq]; exact h3⟩
        have : j - i = (j - (i + 1)) + 1 := by omega
        rw [this]
        simpa using h2
      | none =>
        rw [hs] at ih
        refine ⟨by simp only [lookP, if_neg hpq]; exact ih.1, fun x hx => ?_⟩
        rcases List.mem_cons.1 hx with rfl | hx
        · exact fun h => hpq h.symm
        · exact ih.2 x hx

def setP (L : Eff3) (p : Pre) (e : Ef) : Eff3 := match L with
  | [] => [(p, e)]
  | (q, d) :: L => if p = q then (p, e) :: L else (q, d) :: setP L p e

theorem ents_get : ∀ {L : Eff3} {b j : Nat} {p : Pre} {e : Ef}, L[j]? = some (p, e) → (entsF b L)[j]? = some (p.av, e.av, b + j)
  | [], _, _, _, _, h => by simp at h
  | (q, d) :: L, b, 0, p, e, h => by
    simp only [List.getElem?_cons_zero, Option.some.injEq, Prod.mk.injEq] at h
    obtain ⟨rfl, rfl⟩ := h
    rfl
  | (q, d) :: L, b, j + 1, p, e, h => by
    simp only [entsF, List.getElem?_cons_succ] at h ⊢
    rw [ents_get h]
    congr 3
    omega
theorem ents_isEmpty (L : Eff3) (b : Nat) : (entsF b L).isEmpty = L.isEmpty := by
  cases L with
  | nil => rfl
  | cons x L => cases x; rfl
theorem ents_len : ∀ (L : Eff3) (b : Nat), (entsF b L).length = L.length
  | [], _ => rfl
  | (_, _) :: L, b => by simp [entsF, ents_len L]
theorem ents_set : ∀ {L : Eff3} {b i j : Nat} {p : Pre} {e : Ef}, seekP p L i = some j → (entsF b L).set (j - i) (p.av, e.av, b + (j - i)) = entsF b (setP L p e) ∧ (setP L p e).length = L.length ∧ i ≤ j
  | [], _, _, _, _, _, h => by simp [seekP] at h
  | (q, d) :: L, b, i, j, p, e, h => by
    simp only [seekP] at h
    by_cases hpq : p = q
    · subst hpq
      simp only [if_true, Option.some.injEq] at h
      subst h
      simp [entsF, setP]
    · simp only [if_neg hpq] at h
      obtain ⟨h1, h2, h3⟩ := ents_set (b := b + 1) (e := e) h
      have e1 : j - i = (j - (i + 1)) + 1 := by omega
      refine ⟨?_, by simp [setP, hpq, h2], by omega⟩
      rw [e1]
      simp only [entsF, List.set_cons_succ, setP, if_neg hpq]
      rw [← h1, show b + (j - (i + 1) + 1) = b + 1 + (j - (i + 1)) by omega]
theorem ents_push : ∀ {L : Eff3} {b i : Nat} {p : Pre} {e : Ef}, seekP p L i = none → entsF b L ++ [(p.av, e.av, b + L.length)] = entsF b (setP L p e) ∧ (setP L p e).length = L.length + 1
  | [], _, _, _, _, _ => ⟨rfl, rfl⟩
  | (q, d) :: L, b, i, p, e, h => by
    simp only [seekP] at h
    by_cases hpq : p = q
    · simp [hpq] at h
    · simp only [if_neg hpq] at h
      obtain ⟨h1, h2⟩ := ents_push (b := b + 1) (e := e) h
      refine ⟨?_, by simp [setP, hpq, h2]⟩
      simp only [entsF, setP, if_neg hpq, List.cons_append]
      rw [← h1, List.length_cons, show b + (L.length + 1) = b + 1 + L.length by omega]

theorem same_pre (p : Pre) (n : Nat) : Instr.sameBits (n + 1) (.agg p.cells.toArray) (.agg p.cells.toArray) = true := by
  have hb : ∀ l : List UInt8, ((l.map byteV).zip (l.map byteV)).all (fun x => Instr.sameBits n x.1 x.2) = true := fun l => by
    rw [List.all_eq_true]
    intro x hx
    have hx2 : ∀ (l : List UInt8), x ∈ (l.map byteV).zip (l.map byteV) → ∃ b, x = (byteV b, byteV b) := by
      intro l
      induction l with
      | nil => simp
      | cons a l ih =>
        simp only [List.map_cons, List.zip_cons_cons, List.mem_cons]
        rintro (rfl | h)
        · exact ⟨a, rfl⟩
        · exact ih h
    obtain ⟨b, rfl⟩ := hx2 l hx
    simp [byteV, Instr.sameBits]
  simp only [Instr.sameBits, beq_self_eq_true, Bool.true_and]
  simp only [Pre.cells]
  rw [List.zip_cons_cons, List.zip_append rfl]
  simp only [List.all_cons, List.all_append, Bool.and_eq_true]
  exact ⟨by simp [Instr.sameBits], hb _, by simp [Instr.sameBits]⟩

/-- A map of what became of prefixes. -/
def EMap (h : Heap) (id : Nat) (L : Eff3) : Prop := h[id]? = some (.map (entsF 0 L) L.length)

theorem lu_at {h : Heap} {id : Nat} {L : Eff3} (hm : EMap h id L) (hL : ∀ q ∈ L, q.1.ok) {p : Pre} (hp : p.ok) (ok : Bool) : lookupE E h 105 (.map id) p.av ok = some (bif ok then .tup [((lookP L p).getD zEf).av, .v (.bool (lookP L p).isSome)] else ((lookP L p).getD zEf).av) := by
  have hu : E.P.underlying 105 = some (.map 55 108) := by kernel_rfl
  have hf := find_ents hp hL L.isEmpty
  have hs := seek_look (p := p) (L := L) (i := 0)
  unfold lookupE
  rw [hu]
  dsimp only
  unfold EMap at hm
  rw [hm]
  simp only [ents_isEmpty, hf]
  cases hk : seekP p L 0 with
  | some j =>
    rw [hk] at hs
    obtain ⟨_, e, h2, h3⟩ := hs
    rw [Nat.sub_zero] at h2
    simp only [ents_get h2, h3]
    rfl
  | none =>
    rw [hk] at hs
    simp only [zero_ef, hs.1]
    rfl

theorem mu_at {h : Heap} {id : Nat} {L : Eff3} (hm : EMap h id L) (hL : ∀ q ∈ L, q.1.ok) {p : Pre} (hp : p.ok) (e : Ef) : updateE E h 105 (.map id) p.av e.av = some (h.set id (.map (entsF 0 (setP L p e)) (setP L p e).length), id) := by
  have hu : E.P.underlying 105 = some (.map 55 108) := by kernel_rfl
  have hf := find_ents hp hL false
  have hs := seek_look (p := p) (L := L) (i := 0)
  unfold updateE
  rw [hu]
  dsimp only
  unfold EMap at hm
  rw [hm]
  simp only [hf]
  cases hk : seekP p L 0 with
  | some j =>
    rw [hk] at hs
    obtain ⟨_, d, h2, h3⟩ := hs
    rw [Nat.sub_zero] at h2
    obtain ⟨s1, s2, _⟩ := ents_set (b := 0) (e := e) hk
    rw [Nat.sub_zero, Nat.zero_add] at s1
    have ks : prun E.P (Instr.keyThatStays (.agg p.cells.toArray) (.agg p.cells.toArray)) = some (.agg p.cells.toArray) := by
      unfold Instr.keyThatStays
      rw [if_pos (same_pre p 9999)]
      rfl
    simp only [ents_get h2, p.toV, ks, Nat.zero_add, s1, s2]
  | none =>
    obtain ⟨s1, s2⟩ := ents_push (b := 0) (e := e) hk
    rw [Nat.zero_add] at s1
    simp only [s1, s2]

end Go.Proofs.YtobdjegooonklaaGreat
