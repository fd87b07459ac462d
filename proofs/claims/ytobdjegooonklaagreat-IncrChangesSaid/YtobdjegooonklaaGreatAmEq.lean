/- Structs and arrays held against each other. Conditions: none. -/
import Derived.Test.YtobdjegooonklaaGreatAmSim
import Derived.Laws.StructEq
import Derived.ChangeKeysEq
set_option linter.unusedVariables false
set_option linter.unusedSimpArgs false
namespace Go.AM
open Go

section
variable {P : Program}

theorem prun_ite {α : Type} {c : Prop} [Decidable c] {a b : Sem α} : prun P (if c then a else b) = if c then prun P a else prun P b := by split <;> rfl

theorem prun_program : prun P program = some P := rfl

theorem prun_struct (d : Nat) (t : TypeId) (xs ys : Array Value) {fs : Array Field} (ht : P.underlying t = some (.struct fs)) (hp : P.stoodInHeld t = false) :
    prun P (Op.equalIn (d + 1) t (.agg xs) (.agg ys)) = prun P (Op.eqFields d xs ys fs.toList) := by
  simp only [Op.equalIn, prun_bind, prun_underlying ht, prun_program, hp, Bool.false_eq_true, if_false]
  rw [← Array.forIn_toList]
  generalize fs.toList = l
  induction l with
  | nil => rfl
  | cons f fs ih =>
    simp only [List.forIn_cons, Op.eqFields]
    by_cases hn : f.name = "_"
    · simpa [prun_bind, prun_pure, hn] using ih
    · simp only [hn, ne_eq, not_false_eq_true, if_true, prun_bind]
      cases prun P (part f.type xs f.offset) with
      | none => rfl
      | some a =>
        cases prun P (part f.type ys f.offset) with
        | none => rfl
        | some b =>
          dsimp only
          cases prun P (Op.equalIn d f.type a b) with
          | none => rfl
          | some r =>
            cases r
            · rfl
            · simpa [prun_ite, prun_bind, prun_pure] using ih

theorem prun_array (d : Nat) {t e : TypeId} {n k : Nat} (xs ys : Array Value) (hu : P.underlying t = some (.array n e)) (hs : prun P (sizeOf e) = some k) :
    prun P (Op.equalIn (d + 1) t (.agg xs) (.agg ys)) = prun P (Op.eqItems d e k xs ys (List.range n)) := by
  simp only [Op.equalIn, prun_bind, prun_underlying hu, hs]
  simp only [Std.Legacy.Range.forIn_eq_forIn_range', Std.Legacy.Range.size, Nat.sub_zero, Nat.add_one_sub_one, Nat.div_one, List.range_eq_range']
  generalize List.range' 0 n = is
  induction is with
  | nil => rfl
  | cons j is ih =>
    simp only [List.forIn_cons, Op.eqItems, prun_bind]
    cases prun P (part e xs (j * k)) with
    | none => rfl
    | some a =>
      cases prun P (part e ys (j * k)) with
      | none => rfl
      | some b =>
        dsimp only
        cases prun P (Op.equalIn d e a b) with
        | none => rfl
        | some r =>
          cases r
          · rfl
          · simpa [prun_ite, prun_bind, prun_pure] using ih

theorem prun_eq_int (d : Nat) {t : TypeId} {k : IntKind} (hu : P.underlying t = some (.int k)) (a b : Int) : prun P (Op.equalIn (d + 1) t (.int k a) (.int k b)) = some (a == b) := by
  simp only [Op.equalIn, prun_bind, prun_underlying hu]
  simp [prun_pure]
theorem prun_eq_bool (d : Nat) {t : TypeId} (hu : P.underlying t = some .bool) (a b : Bool) : prun P (Op.equalIn (d + 1) t (.bool a) (.bool b)) = some (a == b) := by
  simp only [Op.equalIn, prun_bind, prun_underlying hu]
  simp [prun_pure]

theorem prun_part_one {t : TypeId} (hs : prun P (isAgg t) = some false) (cs : Array Value) (off : Nat) (v : Value) (h : cs[off]? = some v) : prun P (part t cs off) = some v := by
  unfold part
  rw [prun_bind, hs]
  simp only [Bool.false_eq_true, if_false, h]
  rfl
theorem prun_part_agg {t : TypeId} {k : Nat} (hs : prun P (isAgg t) = some true) (hk : prun P (sizeOf t) = some k) (cs : Array Value) (off : Nat) : prun P (part t cs off) = some (.agg (cs.extract off (off + k))) := by
  unfold part
  rw [prun_bind, hs]
  simp only [if_true, prun_bind, hk]
  rfl

/-- Rows of bytes. -/
theorem prun_bytes (d : Nat) {e : TypeId} (hu : P.underlying e = some (.int .u8)) (hs : prun P (isAgg e) = some false) : ∀ (n s : Nat) (xs ys : List UInt8), xs.length = s + n → ys.length = s + n →
    prun P (Op.eqItems (d + 1) e 1 (xs.map fun b => Value.int .u8 b.toNat).toArray (ys.map fun b => Value.int .u8 b.toNat).toArray (List.range' s n)) = some (xs.drop s == ys.drop s)
  | 0, s, xs, ys, hx, hy => by
    rw [List.drop_eq_nil_of_le (by omega), List.drop_eq_nil_of_le (by omega)]
    rfl
  | n + 1, s, xs, ys, hx, hy => by
    have ih := prun_bytes d hu hs n (s + 1) xs ys (by omega) (by omega)
    have hxs : s < xs.length := by omega
    have hys : s < ys.length := by omega
    rw [List.range'_succ, Op.eqItems]
    rw [prun_bind, prun_part_one hs _ _ (.int .u8 (xs[s].toNat : Int)) (by simp [hxs])]
    dsimp only
    rw [prun_bind, prun_part_one hs _ _ (.int .u8 (ys[s].toNat : Int)) (by simp [hys])]
    dsimp only
    rw [prun_bind, prun_eq_int d hu]
    dsimp only
    rw [prun_ite, ih]
    have hc : ((xs[s].toNat : Int) == (ys[s].toNat : Int)) = (xs[s] == ys[s]) := by
      by_cases he : xs[s] = ys[s]
      · rw [he]; simp
      · have : ¬ (xs[s].toNat : Int) = (ys[s].toNat : Int) := fun h => he (UInt8.toNat_inj.1 (by omega))
        rw [beq_eq_false_iff_ne.2 he, beq_eq_false_iff_ne.2 this]
    rw [hc]
    have h2 : (xs.drop s == ys.drop s) = ((xs[s] == ys[s]) && (xs.drop (s + 1) == ys.drop (s + 1))) := by
      rw [List.drop_eq_getElem_cons hxs, List.drop_eq_getElem_cons hys]; rfl
    rw [h2]
    cases xs[s] == ys[s] <;> rfl

theorem bin_eq_agg {t : TypeId} {ox oy : Operand} {x y : AV} {xs ys : Array Value} {r : Bool} (hx : toV x = some (.agg xs)) (hy : toV y = some (.agg ys)) (hg : P.eqGuardType P.depth t = false) (he : prun P (Op.equalIn 10000 t (.agg xs) (.agg ys)) = some r) :
    binE P .eql t ox oy x y = some (.v (.bool r)) := by
  unfold binE
  simp only [hx, hy]
  have h1 : prun P (eqGuard .eql t ox oy (.agg xs) (.agg ys)) = some () := by
    unfold eqGuard
    simp [prun_bind, prun_program, hg, prun_pure]
  have h2 : prun P (binOp .eql t (.agg xs) (.agg ys)) = some (.bool r) := by
    show prun P (do pure (Value.bool (← Op.equal t (.agg xs) (.agg ys))) : Sem Value) = _
    rw [prun_bind]
    unfold Op.equal Op.maxDepth
    rw [he]
    rfl
  rw [prun_bind, h1]
  dsimp only
  rw [h2]
  rfl
theorem bin_ne_agg {t : TypeId} {ox oy : Operand} {x y : AV} {xs ys : Array Value} {r : Bool} (hx : toV x = some (.agg xs)) (hy : toV y = some (.agg ys)) (hg : P.eqGuardType P.depth t = false) (he : prun P (Op.equalIn 10000 t (.agg xs) (.agg ys)) = some r) :
    binE P .neq t ox oy x y = some (.v (.bool !r)) := by
  unfold binE
  simp only [hx, hy]
  have h1 : prun P (eqGuard .neq t ox oy (.agg xs) (.agg ys)) = some () := by
    unfold eqGuard
    simp [prun_bind, prun_program, hg, prun_pure]
  have h2 : prun P (binOp .neq t (.agg xs) (.agg ys)) = some (.bool !r) := by
    show prun P (do pure (Value.bool (!(← Op.equal t (.agg xs) (.agg ys)))) : Sem Value) = _
    rw [prun_bind]
    unfold Op.equal Op.maxDepth
    rw [he]
    rfl
  rw [prun_bind, h1]
  dsimp only
  rw [h2]
  rfl
end

end Go.AM
