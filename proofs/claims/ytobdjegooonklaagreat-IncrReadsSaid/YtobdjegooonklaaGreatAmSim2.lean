/- More rules for rewriting: conversions, rows appended to, pointers held against nil. Conditions: none. -/
import Derived.Test.YtobdjegooonklaaGreatAmSim
import Derived.Test.YtobdjegooonklaaGreatAmMaps
import Derived.Laws.Strings
import Derived.Laws.Strings2
import Derived.WideShapes
set_option linter.unusedVariables false
namespace Go.AM
open Go

section
variable {E : Env} {K : CallK} {nl : Nat} {f : FuncId} {nt n0 : Nat} {fr : FR} {h : Heap} {ty : TypeId} {ps : String} {af : Array Edge} {g : Option (Nat × Bool)} {dst : Option Tmp} {P : Program} {Z : List (TypeId × AV)}

def convE (P : Program) (h : Heap) (s t : TypeId) (a : AV) : Option (AV × Heap × Option (Nat × Bool)) := match P.underlying s, P.underlying t, a with
  | some .string, some (.slice e), .v (.string b) => match P.underlying e with
    | some (.int .u8) => some (.lit 1 false (ofBytes b.data.toList), h, none)
    | _ => none
  | some (.slice e), some .string, a => match P.underlying e with
    | some (.int .u8) => match strOf h a with
      | some b => some (.v (.string b), h, none)
      | none => none
    | _ => none
  | _, _, a => match toV a with
    | some b => match pure1 (prun P (convert s t b)) with
      | some y => some (y, h, none)
      | none => none
    | none => match convPtr P h s t a with
      | some y => some (y, h, none)
      | none => none
def cvO (P : Program) (h : Heap) (s t : TypeId) (c : Cl) (x : Option AV) : Option Out := match x with
  | some a => opO (convE P h s t a) c
  | none => none
theorem Zdp {s t : TypeId} {c : Cl} {a : AV} : cvO P h s t c (some a) = opO (convE P h s t a) c := rfl
theorem Zdo {s t : TypeId} {x : Operand} : coreO E K f ⟨dst, .convert s t x, ty, ps, af, g⟩ fr h = cvO E.P h s t (clsOf E f ⟨dst, .convert s t x, ty, ps, af, g⟩ fr) (ev fr x) := by
  rw [core_conv]
  unfold cvO
  simp only [opE]
  cases ev fr x with
  | none => rfl
  | some a => rfl

def bsE (E : Env) (h : Heap) (f : FuncId) (t : TypeId) (n : Nat) (qs : Option (List (Nat × AV))) : Option (AV × Heap × Option (Nat × Bool)) := match qs, E.P.underlying t with
  | some qs, some (.slice e) => match szOf E.P e with
    | some k => match baseE E e n k with
      | some zs => match setParts (fun i => some (i * k, k)) zs qs with
        | some l => bif Nat.ble (n * k) 16777216 && Nat.ble 1 k then
            bif E.rows f then some (.sl h.length 0 0 n, newRow h k l ⟨true, e⟩, none) else some (.lit k true l, h, none)
          else none
        | none => none
      | none => none
    | none => none
  | _, _ => none
theorem Zdj {t : TypeId} {n : Nat} {xs : Array (Nat × Operand)} : coreO E K f ⟨dst, .buildSlice t n xs, ty, ps, af, g⟩ fr h = opO (bsE E h f t n (evP fr xs.toList)) (clsOf E f ⟨dst, .buildSlice t n xs, ty, ps, af, g⟩ fr) := by
  rw [core_bslice]
  simp only [opE, bsE]
  split
  · rename_i q e h1 h2
    rw [h1, h2]
    rfl
  · rename_i hn
    split
    · rename_i q e h1 h2
      exact (hn _ _ h1 h2).elim
    · rfl

def bdO (E : Env) (h : Heap) (t : TypeId) (qs : Option (List (Nat × AV))) : Option Out := match qs with
  | some qs => o1 (buildE E t qs) h .pure
  | none => none
theorem Zdi {t : TypeId} {qs : List (Nat × AV)} : bdO E h t (some qs) = o1 (buildE E t qs) h .pure := rfl
theorem Zdh {t : TypeId} {xs : Array (Nat × Operand)} : coreO E K f ⟨dst, .build t xs, ty, ps, af, g⟩ fr h = bdO E h t (evP fr xs.toList) := by
  rw [core_build]
  simp only [opE, bdO]
  cases evP fr xs.toList with
  | none => rfl
  | some q => dsimp only; unfold o1; cases buildE E t q <;> rfl

def slO (P : Program) (h : Heap) (t : TypeId) (c : Cl) (a : Option AV) (l r m : Option (Option AV)) : Option Out := match a, l, r, m with
  | some a, some l, some r, some m => o1 (sliceE P h t a l r m) h c
  | _, _, _, _ => none
def evO' (fr : FR) (x : Option Operand) : Option (Option AV) := match x with
  | none => some none
  | some y => match ev fr y with
    | some z => some (some z)
    | none => none
theorem Zdm : evO' fr none = some none := rfl
theorem Zdn {y : Operand} : evO' fr (some y) = match ev fr y with
    | some z => some (some z)
    | none => none := rfl
theorem Zdl {t : TypeId} {c : Cl} {a : AV} {l r m : Option AV} : slO P h t c (some a) (some l) (some r) (some m) = o1 (sliceE P h t a l r m) h c := rfl
theorem Zdk {t : TypeId} {x : Operand} {lo hi mx : Option Operand} : coreO E K f ⟨dst, .slice t x lo hi mx, ty, ps, af, g⟩ fr h = slO E.P h t (clsOf E f ⟨dst, .slice t x lo hi mx, ty, ps, af, g⟩ fr) (ev fr x) (evO' fr lo) (evO' fr hi) (evO' fr mx) := by
  rw [core_slice]
  have e : ∀ y, opE.evO fr y = evO' fr y := fun y => by cases y <;> rfl
  simp only [opE, slO, e]
  cases ev fr x with
  | none => rfl
  | some a => cases evO' fr lo with
    | none => rfl
    | some l => cases evO' fr hi with
      | none => rfl
      | some r => cases evO' fr mx with
        | none => rfl
        | some m => dsimp only; unfold o1; cases sliceE E.P h t a l r m <;> rfl
theorem Zdq {x : Fn} {l r : Array Operand} : coreO E K f ⟨dst, .makeFunc x l r, ty, ps, af, g⟩ fr h = o1 (match evL fr l.toList, evL fr r.toList with
    | some a, some b => some (.fn x a b)
    | _, _ => none) h .pure := by
  rw [core_mkfn]
  simp only [opE]
  cases evL fr l.toList with
  | none => rfl
  | some a => cases evL fr r.toList <;> rfl
theorem core_mm {t : TypeId} {a b : TypeId} (hu : E.P.underlying t = some (.map a b)) : coreO E K f ⟨dst, .makeMap t none, ty, ps, af, g⟩ fr h = some ⟨.map h.length, h ++ [.map [] 0], .w, [], []⟩ := by
  rw [core_mkmap]
  simp only [opE, hu]
  rfl

def apO (h : Heap) (e : TypeId) (k bytes : Nat) (s : AV) (xs : Option (List AV)) : OpRes := match xs with
  | some xs => bif Nat.ble (((sliceLen s).getD 0 + xs.length) * bytes) 140737488355328 then appendTo h e k s xs else none
  | none => none
theorem Zer {e : TypeId} {k bytes : Nat} {s : AV} {xs : List AV} : apO h e k bytes s (some xs) = if ((sliceLen s).getD 0 + xs.length) * bytes ≤ 140737488355328 then appendTo h e k s xs else none := by
  unfold apO
  simp only [bleE]
  by_cases hc : ((sliceLen s).getD 0 + xs.length) * bytes ≤ 140737488355328
  · simp [hc]
  · simp only [hc, decide_false, cond_false, if_false]
theorem ap_of {st xt e : TypeId} {i : TypeInfo} {z : Value} {s x : AV} (h1 : P.underlying st = some (.slice e)) (h2 : P.info? e = some i) (h3 : i.zero = some z) (h4 : (Nat.beq z.cells.size i.size && Nat.ble 1 i.size && Nat.ble 1 i.bytes) = true) :
    appendE P Z h #[st, xt] s x = apO h e i.size i.bytes s (srcEls P Z h xt e i.size x) := by
  unfold appendE apO
  simp only [List.getElem?_toArray, List.getElem?_cons_zero, List.getElem?_cons_succ, h1, h2, h3]
  cases srcEls P Z h xt e i.size x with
  | none => rfl
  | some xs => simp only [h4, Bool.true_and]

theorem ap_at {st xt e k b : Nat} {s x : AV} (h1 : P.underlying st = some (.slice e)) (h2 : ((P.info? e).map fun i => (i.zero.map fun z => z.cells.size, i.size, i.bytes)) = some (some k, k, b)) (hk : 1 ≤ k) (hb : 1 ≤ b) :
    appendE P Z h #[st, xt] s x = apO h e k b s (srcEls P Z h xt e k x) := by
  cases hi : P.info? e with
  | none => rw [hi] at h2; cases h2
  | some i =>
    rw [hi] at h2
    simp only [Option.map_some, Option.some.injEq, Prod.mk.injEq] at h2
    obtain ⟨h3, h4, h5⟩ := h2
    cases hz : i.zero with
    | none => rw [hz] at h3; cases h3
    | some z =>
      rw [hz] at h3
      simp only [Option.map_some, Option.some.injEq] at h3
      rw [← h4, ← h5]
      refine ap_of h1 hi hz ?_
      rw [h3, h4, h5]
      simp [Nat.ble_eq_true_of_le hk, Nat.ble_eq_true_of_le hb]
def srS (h : Heap) (k : Nat) (x : AV) : Option (List AV) := match x with
  | .v (.slice none 0 0) => some []
  | x => match elsOf h x with
    | some (k', l) => bif Nat.beq k k' then some l else none
    | none => none
theorem src_slice {t e e' : TypeId} {k : Nat} {x : AV} (hu : P.underlying t = some (.slice e')) : srcEls P Z h t e k x = srS h k x := by
  unfold srcEls
  rw [hu]
  cases x with
  | v y => cases y with
    | slice a i j => cases a with
      | some a => rfl
      | none => cases i with
        | succ i => rfl
        | zero => cases j <;> rfl
    | _ => rfl
  | _ => rfl
theorem src_str {t e : TypeId} {s : ByteArray} (hu : P.underlying t = some .string) : srcEls P Z h t e 1 (.v (.string s)) = some (ofBytes s.data.toList) := by
  unfold srcEls
  simp only [hu]
  rfl
theorem Zes {k : Nat} : srS h k (.v (.slice none 0 0)) = some [] := rfl
theorem Zet {k k' : Nat} {b : Bool} {l : List AV} : srS h k (.lit k' b l) = if k = k' then some l else none := by
  show (bif Nat.beq k k' then some l else none) = _
  rw [beqE]; split <;> simp_all
theorem srS_sl {k id gen off len : Nat} : srS h k (.sl id gen off len) = match elsOf h (.sl id gen off len) with
    | some (k', l) => bif Nat.beq k k' then some l else none
    | none => none := rfl
theorem Zeu {e : TypeId} {k : Nat} {xs : List AV} : appendTo h e k (.v (.slice none 0 0)) xs = bif xs.isEmpty then some (.v (.slice none 0 0), h, none, .quiet) else
      some (.sl h.length 0 0 xs.length, h ++ [.row k 0 xs ⟨false, e⟩], none, .w) := rfl
theorem Zev {e : TypeId} {k k0 : Nat} {b : Bool} {l xs : List AV} : appendTo h e k0 (.lit k b l) xs = bif xs.isEmpty then some (.lit k b l, h, none, .quiet) else
      bif b && Nat.beq k k0 then some (.sl h.length 0 0 (l.length + xs.length), h ++ [.row k0 0 (l ++ xs) ⟨false, e⟩], none, .w) else none := rfl
/-- Behind a whole row: a new one. -/
theorem app_new {e : TypeId} {k id gen len : Nat} {els xs : List AV} {ex : Tag} (hr : h[id]? = some (.row k gen els ex)) (ht : ex.ty = e) (hl : els.length = len) (hx : xs ≠ []) :
    appendTo h e k (.sl id gen 0 len) xs = some (.sl id (gen + 1) 0 (len + xs.length), h.set id (.row k (gen + 1) (els ++ xs) ⟨false, e⟩), some (id, !idfreeL xs), .w) := by
  have hp : 0 < xs.length := by cases xs with | nil => exact (hx rfl).elim | cons a l => simp
  have h1 : ¬ (0 + len + xs.length ≤ els.length) := by omega
  have h2 : 0 + len ≤ els.length := by omega
  subst ht
  have h3 : ¬ (len + xs.length ≤ len) := by omega
  simp [appendTo, hr, bleE, hl, List.take_of_length_le, h3]
theorem app_none {e : TypeId} {k id gen len : Nat} {els : List AV} {ex : Tag} (hr : h[id]? = some (.row k gen els ex)) (hl : len ≤ els.length) :
    appendTo h e k (.sl id gen 0 len) [] = some (.sl id gen 0 len, h.set id (.row k gen els ex), some (id, false), .w) := by
  simp [appendTo, hr, bleE, beqE, hl, setFrom, idfreeL]

theorem len_slice {t e : TypeId} {x : AV} (hu : P.underlying t = some (.slice e)) : lenE P h #[t] x = match sliceLen x with
    | some n => some (vInt n, h, none, .pure)
    | none => none := by
  unfold lenE
  rw [show (#[t] : Array TypeId)[0]? = some t from rfl]
  dsimp only
  rw [hu]
  cases x <;> rfl
theorem len_str {t : TypeId} {s : ByteArray} (hu : P.underlying t = some .string) : lenE P h #[t] (.v (.string s)) = some (vInt s.size, h, none, .pure) := by
  unfold lenE
  rw [show (#[t] : Array TypeId)[0]? = some t from rfl]
  dsimp only
  rw [hu]
theorem Zew {ts : Array TypeId} {x : AV} : builtinE E h .len ts ty [x] = lenE E.P h ts x := rfl
theorem Zex {ts : Array TypeId} {x : AV} : builtinE E h .cap ts ty [x] = capE E.P h ts x := rfl
theorem Zey {ts : Array TypeId} {s x : AV} : builtinE E h .append ts ty [s, x] = appendE E.P E.zeros h ts s x := rfl
theorem Zez {ts : Array TypeId} {s x : AV} : builtinE E h .copy ts ty [s, x] = copyE E.P h ts s x := rfl
theorem Zfa {ts : Array TypeId} {x : AV} : builtinE E h .unsafeSliceData ts ty [x] = sliceDataE h x := rfl
theorem Zfb {ts : Array TypeId} {x n : AV} : builtinE E h .unsafeString ts ty [x, n] = unsafeStringE E.P h ts x n := rfl

theorem cv_int {s t : TypeId} {d : TypeDesc} {kd kd' : IntKind} {n : Int} (hs : P.underlying s = some (.int kd)) (ht : P.underlying t = some (.int kd')) : convE P h s t (.v (.int kd n)) = some (.v (.int kd' (kd'.wrap n)), h, none) := by
  have hp : prun P (convert s t (.int kd n)) = some (.int kd' (kd'.wrap n)) := by
    unfold convert
    simp only [prun_bind, prun_underlying hs, prun_underlying ht]
    rfl
  unfold convE
  simp only [hs, ht, toV, free, cond_true, hp]
  rfl
theorem cv_bytes {s t e : TypeId} {a : AV} (hs : P.underlying s = some (.slice e)) (ht : P.underlying t = some .string) (he : P.underlying e = some (.int .u8)) : convE P h s t a = match strOf h a with
      | some b => some (.v (.string b), h, none)
      | none => none := by
  unfold convE
  simp only [hs, ht, he]
theorem ptr_eq {t e : TypeId} {ox oy : Operand} {id gn i o : Nat} {p : List Nat} (hu : P.underlying t = some (.pointer e)) : binE P .eql t ox oy (.ptr id gn i p o) (.v (.pointer none)) = some (.v (.bool false)) := by
  unfold binE
  simp only [toV, hu, nilEq]
theorem ptr_ne {t e : TypeId} {ox oy : Operand} {id gn i o : Nat} {p : List Nat} (hu : P.underlying t = some (.pointer e)) : binE P .neq t ox oy (.ptr id gn i p o) (.v (.pointer none)) = some (.v (.bool true)) := by
  unfold binE
  simp only [toV, hu, nilEq]
  rfl
theorem ptr_self_ne {t e : TypeId} {n : Nat} {ox oy : Operand} {id gn i o : Nat} {p q : List Nat} (hu : P.underlying t = some (.pointer e)) (hs : szOf P e = some n) (hn : 1 ≤ n) : binE P .neq t ox oy (.ptr id gn i p o) (.ptr id gn i q o) = some (.v (.bool false)) := by
  unfold binE
  simp only [toV, hu, nilEq, ptrSame, hs]
  simp [Nat.ble_eq_true_of_le hn]

theorem Zfi {a : Nat} : ins a [] = [a] := rfl
theorem Zfj {a : Nat} {l : List Nat} : ins a (a :: l) = a :: l := by simp [ins]
theorem ins_mem {a i : Nat} {l : List Nat} (h : i ∈ ins a l) : i = a ∨ i ∈ l := by
  unfold ins at h
  cases he : l.elem a with
  | true => rw [he] at h; exact .inr h
  | false => rw [he] at h; exact List.mem_cons.1 h
theorem insLt_mem {n0 a i : Nat} {l : List Nat} (h : i ∈ insLt n0 a l) : i = a ∨ i ∈ l := by
  unfold insLt at h
  cases hb : Nat.blt a n0 with
  | true => rw [hb] at h; exact ins_mem h
  | false => rw [hb] at h; exact .inr h
theorem mergeLt_mem {n0 i : Nat} : ∀ {l r : List Nat}, i ∈ mergeLt n0 l r → i ∈ l ∨ i ∈ r
  | [], r, h => .inr h
  | a :: l, r, h => by
    rcases mergeLt_mem (l := l) h with h | h
    · exact .inl (List.mem_cons_of_mem _ h)
    · rcases insLt_mem h with rfl | h
      · exact .inl (List.mem_cons_self ..)
      · exact .inr h
theorem mergeLt_ge {n0 : Nat} : ∀ {l r : List Nat}, (∀ i ∈ l, n0 ≤ i) → mergeLt n0 l r = r
  | [], r, _ => rfl
  | a :: l, r, h => by
    show mergeLt n0 l (insLt n0 a r) = r
    have : insLt n0 a r = r := by
      unfold insLt
      rw [bltE, decide_eq_false (by have := h a (List.mem_cons_self ..); omega)]
      rfl
    rw [this]
    exact mergeLt_ge fun i hi => h i (List.mem_cons_of_mem _ hi)

theorem bin_shr {t : TypeId} {ox oy : Operand} {kd kd2 : IntKind} {x y : Int} (hy : 0 ≤ y) : binE P .shr t ox oy (.v (.int kd x)) (.v (.int kd2 y)) = some (.v (.int kd (x.fdiv (2 ^ (min y.toNat kd.bits))))) := by
  show pure1 (prun P (Op.shift .shr kd x kd2 y)) = _
  unfold Op.shift
  rw [if_neg (by omega)]
  rfl
theorem bin_shl {t : TypeId} {ox oy : Operand} {kd kd2 : IntKind} {x y : Int} (hy : 0 ≤ y) : binE P .shl t ox oy (.v (.int kd x)) (.v (.int kd2 y)) = some (.v (.int kd (kd.wrap (x * 2 ^ (min y.toNat kd.bits))))) := by
  show pure1 (prun P (Op.shift .shl kd x kd2 y)) = _
  unfold Op.shift
  rw [if_neg (by omega)]
  rfl
theorem bin_quo {t : TypeId} {ox oy : Operand} {kd : IntKind} {x y : Int} (hy : y ≠ 0) : binE P .quo t ox oy (.v (.int kd x)) (.v (.int kd y)) = some (.v (.int kd (kd.wrap (x.tdiv y)))) := by
  have h : prun P (Op.intDiv .quo kd x y) = some (.int kd (kd.wrap (x.tdiv y))) := by
    unfold Op.intDiv
    rw [if_neg hy]
    rfl
  cases kd <;> exact congrArg pure1 h
theorem bin_rem {t : TypeId} {ox oy : Operand} {kd : IntKind} {x y : Int} (hy : y ≠ 0) : binE P .rem t ox oy (.v (.int kd x)) (.v (.int kd y)) = some (.v (.int kd (x.tmod y))) := by
  have h : prun P (Op.intDiv .rem kd x y) = some (.int kd (x.tmod y)) := by
    unfold Op.intDiv
    rw [if_neg hy]
    rfl
  cases kd <;> exact congrArg pure1 h
theorem Zfm {t : TypeId} {ox oy : Operand} {kd : IntKind} {x y : Int} : binE P .or t ox oy (.v (.int kd x)) (.v (.int kd y)) = some (.v (.int kd (kd.wrap ((BitVec.ofInt kd.bits x ||| BitVec.ofInt kd.bits y).toNat)))) := by
  cases kd <;> rfl
theorem Zfn {t : TypeId} {ox oy : Operand} {kd : IntKind} {x y : Int} : binE P .and t ox oy (.v (.int kd x)) (.v (.int kd y)) = some (.v (.int kd (kd.wrap ((BitVec.ofInt kd.bits x &&& BitVec.ofInt kd.bits y).toNat)))) := by
  cases kd <;> rfl
theorem Zfo {t : TypeId} {ox oy : Operand} {kd : IntKind} {x y : Int} : binE P .xor t ox oy (.v (.int kd x)) (.v (.int kd y)) = some (.v (.int kd (kd.wrap ((BitVec.ofInt kd.bits x ^^^ BitVec.ofInt kd.bits y).toNat)))) := by
  cases kd <;> rfl

/-! ### Integers that need no wrapping -/
theorem wrap_i64 {n : Int} (h1 : -9223372036854775808 ≤ n) (h2 : n ≤ 9223372036854775807) : IntKind.i64.wrap n = n := by
  simp [IntKind.wrap, IntKind.signed, IntKind.bits]
  split <;> omega
theorem wrap_u64 {n : Int} (h1 : 0 ≤ n) (h2 : n ≤ 18446744073709551615) : IntKind.u64.wrap n = n := by
  simp [IntKind.wrap, IntKind.signed, IntKind.bits]
  omega
theorem wrap_u32 {n : Int} (h1 : 0 ≤ n) (h2 : n ≤ 4294967295) : IntKind.u32.wrap n = n := by
  simp [IntKind.wrap, IntKind.signed, IntKind.bits]
  omega
theorem wrap_u8 {n : Int} : IntKind.u8.wrap n = n % 256 := by
  simp [IntKind.wrap, IntKind.signed, IntKind.bits]
theorem or128 : ∀ k : Fin 256, IntKind.u8.wrap ((BitVec.ofInt 8 (k.val : Int) ||| BitVec.ofInt 8 128).toNat) = (k.val % 128 + 128 : Nat) := by decide +kernel
theorem or_128 {k : Nat} (h : k < 256) : IntKind.u8.wrap ((BitVec.ofInt IntKind.u8.bits (k : Int) ||| BitVec.ofInt IntKind.u8.bits 128).toNat) = ((k % 128 + 128 : Nat) : Int) := or128 ⟨k, h⟩
theorem shr_7 {n : Nat} : (n : Int).fdiv 128 = ((n / 128 : Nat) : Int) := by
  rw [Int.fdiv_eq_ediv_of_nonneg _ (by omega)]
  omega

theorem Zfe {k : Nat} {b : Bool} {l : List AV} : sliceLen (.lit k b l) = some l.length := rfl
theorem Zff {id g o n : Nat} : sliceLen (.sl id g o n) = some n := rfl
theorem Zfg {id g i o k off n m : Nat} {p : List Nat} : sliceLen (.isl id g i p o k off n m) = some n := rfl
theorem Zfh : sliceLen (.v (.slice none 0 0)) = some 0 := rfl

/-! ### Strings -/
def strB (l : List UInt8) : ByteArray := ⟨l.toArray⟩
theorem strB_toList (l : List UInt8) : (strB l).toList = l := by rw [ByteArray.toList_eq]; simp [strB]
theorem strB_data (l : List UInt8) : (strB l).data.toList = l := by simp [strB]
theorem strB_size (l : List UInt8) : (strB l).size = l.length := by simp [strB, ByteArray.size]
theorem strB_of (s : ByteArray) : s = strB s.data.toList := by simp [strB]
theorem ofBytes_len (l : List UInt8) : (ofBytes l).length = l.length := by simp [ofBytes]
theorem ofBytes_nil : ofBytes [] = [] := rfl
theorem ofBytes_cons (b : UInt8) (l : List UInt8) : ofBytes (b :: l) = .v (.int .u8 b.toNat) :: ofBytes l := rfl
theorem ofBytes_append (a b : List UInt8) : ofBytes (a ++ b) = ofBytes a ++ ofBytes b := by simp [ofBytes]
theorem Zfu : ∀ l : List UInt8, idfreeL (ofBytes l) = true
  | [] => rfl
  | b :: l => by rw [ofBytes_cons]; simp [idfreeL, idfree, Zfu l]
theorem strB_empty : strB [] = ByteArray.empty := rfl
theorem strB_append (a b : List UInt8) : strB a ++ strB b = strB (a ++ b) := by
  apply WideShapes.bytes_inj
  simp [strB]
theorem strB_extract (l : List UInt8) (p q : Nat) : (strB l).extract p q = strB ((l.drop p).take (q - p)) := by
  exact ByteArray.extract_mk l p q
theorem strB_get (l : List UInt8) (i : Nat) : (strB l)[i]? = l[i]? := by
  by_cases h : i < l.length
  · rw [getElem?_pos (strB l) i (by rw [strB_size]; exact h), List.getElem?_eq_getElem h]
    rfl
  · rw [getElem?_neg (strB l) i (by rw [strB_size]; exact h), List.getElem?_eq_none (by omega)]
theorem Zfc {t : TypeId} {ox oy : Operand} {a b : List UInt8} : binE P .eql t ox oy (.v (.string (strB a))) (.v (.string (strB b))) = some (.v (.bool (a == b))) := by
  show pure1 (some (.bool ((strB a).toList == (strB b).toList))) = _
  rw [strB_toList, strB_toList]; rfl
theorem Zfd {t : TypeId} {ox oy : Operand} {a b : List UInt8} : binE P .neq t ox oy (.v (.string (strB a))) (.v (.string (strB b))) = some (.v (.bool (!(a == b)))) := by
  show pure1 (some (.bool (!((strB a).toList == (strB b).toList)))) = _
  rw [strB_toList, strB_toList]; rfl
theorem str_add {t : TypeId} {ox oy : Operand} {a b : List UInt8} (h : a.length + b.length ≤ 9223372036854775807) : binE P .add t ox oy (.v (.string (strB a))) (.v (.string (strB b))) = some (.v (.string (strB (a ++ b)))) := by
  have hs : ¬ ((((strB a).size + (strB b).size : Nat) : Int) > IntKind.i64.max) := by
    rw [strB_size, strB_size]
    simp [IntKind.max, IntKind.signed, IntKind.bits]
    omega
  show pure1 (prun P (if (((strB a).size + (strB b).size : Nat) : Int) > IntKind.i64.max then _ else pure (.string (strB a ++ strB b)))) = _
  rw [if_neg hs, strB_append]
  rfl
theorem bytesL_of : ∀ l : List UInt8, bytesL (ofBytes l) = some l
  | [] => rfl
  | b :: l => by
    have := bytesL_of l
    simp only [ofBytes, List.map_cons] at this ⊢
    simp [bytesL, byteOf?, this]
theorem strOf_lit {b : Bool} {l : List UInt8} : strOf h (.lit 1 b (ofBytes l)) = some (strB l) := by
  simp [strOf, elsOf, bytesL_of, strB]
theorem strOf_nil : strOf h (.v (.slice none 0 0)) = some (strB []) := rfl
theorem strOf_sl {id gen : Nat} {l : List UInt8} {ex : Tag} (hr : h[id]? = some (.row 1 gen (ofBytes l) ex)) : strOf h (.sl id gen 0 l.length) = some (strB l) := by
  have : (ofBytes l).length = l.length := by simp [ofBytes]
  simp [strOf, elsOf, hr, bleE, this, List.take_of_length_le, bytesL_of, strB]
theorem bytesOK_of : ∀ l : List UInt8, bytesOK (ofBytes l) = true
  | [] => rfl
  | b :: l => by
    rw [ofBytes_cons]
    have := b.toNat_lt
    simp only [bytesOK, bytesOK_of l, Bool.and_true, Bool.and_eq_true, decide_eq_true_eq]
    omega
theorem Zfk : sliceDataE h (.v (.slice none 0 0)) = some (.v (.pointer none), h, none, .pure) := rfl
theorem data_sl {id gen k : Nat} {c : UInt8} {l : List UInt8} {ex : Tag} {n : Nat} (hr : h[id]? = some (.row k gen (ofBytes (c :: l)) ex)) : sliceDataE h (.sl id gen 0 n) = some (.ptr id gen 0 [] 0, h, none, .rd (some id)) := by
  simp [sliceDataE, hr, bltE, ofBytes_len]
theorem Zfl {pt u : TypeId} : unsafeStringE P h #[pt, u] (.v (.pointer none)) (.v (.int .i64 0)) = some (.v (.string (strB [])), h, none, .pure) := rfl
theorem ustr_row {pt u v : TypeId} {id gen : Nat} {c : UInt8} {l : List UInt8} {ex : Tag} (hr : h[id]? = some (.row 1 gen (ofBytes (c :: l)) ex)) (hp : P.underlying pt = some (.pointer u)) (hc : P.cellsOf u = 1) (hu : ex.ty = u) :
    unsafeStringE P h #[pt, v] (.ptr id gen 0 [] 0) (.v (.int .i64 ((l.length + 1 : Nat) : Int))) = some (.v (.string (strB (c :: l))), h.set id .dead, some (id, false), .w) := by
  have h0 : ¬ (((l.length + 1 : Nat) : Int) = 0) := by omega
  have ht : (ofBytes (c :: l)).take (l.length + 1) = ofBytes (c :: l) := List.take_of_length_le (by simp [ofBytes_len])
  have hb := bytesOK_of (c :: l)
  subst hu
  simp only [unsafeStringE, decide_eq_false h0, cond_false, hp, hr, Int.toNat_natCast, ht, bytesL_of, hb, hc]
  have h3 : (0 : Int) ≤ (l.length : Int) + 1 := by omega
  simp [bleE, ofBytes_len, strB]
  simp only [decide_eq_true h3, cond_true]
theorem idx_str {t : TypeId} {l : List UInt8} {kd : IntKind} {n : Int} {b : UInt8} (hu : P.underlying t = some .string) (h0 : 0 ≤ n) (hb : l[n.toNat]? = some b) : indexE P t (.v (.string (strB l))) (.v (.int kd n)) = some (.v (.int .u8 b.toNat)) := by
  have h1 : n.toNat < l.length := (List.getElem?_eq_some_iff.1 hb).1
  have h2 : n < (l.length : Int) := by omega
  unfold indexE
  simp only [hu, idx, strB_size, h0, h2, decide_true, Bool.true_and, cond_true, strB_get, hb]
end

theorem Zek {h : Heap} {id gen i o : Nat} {p : List Nat} : lookAt h (.ptr id gen i p o) = match h[id]? with
    | some (.row _ g els _) => bif Nat.beq g gen then
        match els[i]? with
        | some x => nav x p o
        | none => none
      else none
    | _ => none := rfl
theorem Zel {h : Heap} {x : AV} : lookAt h (.rop x) = some x := rfl

/-! ### Fields, one behind the other -/
mutual
theorem nav_append : ∀ (z : AV) (p : List Nat) (o : Nat) (x : AV) (q : List Nat) (d : Nat) (y : AV), nav z p o = some x → nav x q d = some y → nav z (p ++ q) (o + d) = some y
  | z, [], o, x, q, d, y, h1, h2 => by
    unfold nav at h1
    cases ho : Nat.beq o 0 with
    | false => rw [ho] at h1; cases h1
    | true =>
      have := Nat.eq_of_beq_eq_true ho
      subst this
      rw [ho] at h1
      injection h1 with h1
      subst h1
      simpa using h2
  | .agg l, f :: p, o, x, q, d, y, h1, h2 => by
    unfold nav at h1
    rw [List.cons_append]
    unfold nav
    exact navL_append l f p o x q d y h1 h2
  | .v _, _ :: _, _, _, _, _, _, h1, _ => by simp [nav] at h1
  | .tup _, _ :: _, _, _, _, _, _, h1, _ => by simp [nav] at h1
  | .lit .., _ :: _, _, _, _, _, _, h1, _ => by simp [nav] at h1
  | .sl .., _ :: _, _, _, _, _, _, h1, _ => by simp [nav] at h1
  | .isl .., _ :: _, _, _, _, _, _, h1, _ => by simp [nav] at h1
  | .ptr .., _ :: _, _, _, _, _, _, h1, _ => by simp [nav] at h1
  | .rop _, _ :: _, _, _, _, _, _, h1, _ => by simp [nav] at h1
  | .map _, _ :: _, _, _, _, _, _, h1, _ => by simp [nav] at h1
  | .fn .., _ :: _, _, _, _, _, _, h1, _ => by simp [nav] at h1
  | .any, _ :: _, _, _, _, _, _, h1, _ => by simp [nav] at h1
theorem navL_append : ∀ (l : List AV) (f : Nat) (p : List Nat) (o : Nat) (x : AV) (q : List Nat) (d : Nat) (y : AV), navL l f p o = some x → nav x q d = some y → navL l f (p ++ q) (o + d) = some y
  | [], f, p, o, x, q, d, y, h1, _ => by simp [navL] at h1
  | z :: l, 0, p, o, x, q, d, y, h1, h2 => by
    unfold navL at h1 ⊢
    exact nav_append z p o x q d y h1 h2
  | z :: l, f + 1, p, o, x, q, d, y, h1, h2 => by
    unfold navL at h1 ⊢
    rw [bleE] at h1 ⊢
    by_cases ho : AM.leafs z ≤ o
    · rw [decide_eq_true ho] at h1
      rw [decide_eq_true (by omega)]
      simp only [cond_true] at h1 ⊢
      have := navL_append l f p (o - AM.leafs z) x q d y h1 h2
      rw [show o + d - AM.leafs z = o - AM.leafs z + d by omega]
      exact this
    · rw [decide_eq_false ho] at h1
      cases h1
end
/-- A field's place, of something that is looked at. -/
theorem faddr_look {P : Program} {h : Heap} {a z y : AV} {l : List AV} {t : TypeId} {f off n : Nat} (ha : lookAt h a = some z) (hz : z = .agg l) (hf : fieldOf P t f = some (off, n)) (hn : n ≠ 0) (hy : nav z [f] off = some y) : ∃ b, fieldAddrE P t a f = some b ∧ lookAt h b = some y := by
  have hb : Nat.beq n 0 = false := by rw [beqE]; exact decide_eq_false hn
  unfold fieldAddrE
  simp only [hf, hb, cond_false]
  cases a with
  | ptr id gen i p o =>
    refine ⟨_, rfl, ?_⟩
    rw [Zek] at ha ⊢
    cases hr : h[id]? with
    | none => rw [hr] at ha; cases ha
    | some r => cases r with
      | row k g els ex =>
        rw [hr] at ha
        simp only at ha ⊢
        cases hg : Nat.beq g gen with
        | false => rw [hg] at ha; cases ha
        | true =>
          rw [hg] at ha
          simp only [cond_true] at ha ⊢
          cases he : els[i]? with
          | none => rw [he] at ha; cases ha
          | some x =>
            rw [he] at ha
            simp only at ha ⊢
            exact nav_append x p o z [f] off y ha hy
      | map _ _ => rw [hr] at ha; cases ha
      | dead => rw [hr] at ha; cases ha
  | rop x =>
    rw [Zel] at ha
    injection ha with ha
    subst ha; subst hz
    unfold nav at hy
    simp only [hy]
    exact ⟨_, rfl, rfl⟩
  | _ => simp [lookAt] at ha

/-! ### Arrays of bytes -/
theorem navL_bytes : ∀ {l : List UInt8} {j : Nat} {b : UInt8}, l[j]? = some b → navL (ofBytes l) j [] j = some (.v (.int .u8 b.toNat))
  | [], j, b, h => by simp at h
  | c :: l, 0, b, h => by
    simp only [List.getElem?_cons_zero, Option.some.injEq] at h
    subst h
    simp [ofBytes_cons, navL, nav]
  | c :: l, j + 1, b, h => by
    rw [List.getElem?_cons_succ] at h
    have := navL_bytes h
    simp [ofBytes_cons, navL, leafs, this, bleE]
theorem putL_bytes : ∀ {l : List UInt8} {j : Nat} {b : UInt8}, j < l.length → putL (ofBytes l) j [] j (.v (.int .u8 b.toNat)) = some (ofBytes (l.set j b))
  | [], j, b, h => by simp at h
  | c :: l, 0, b, h => by simp [ofBytes_cons, putL, put, leafs]
  | c :: l, j + 1, b, h => by
    have := putL_bytes (l := l) (j := j) (b := b) (by simpa using h)
    simp [ofBytes_cons, putL, leafs, this, bleE]
theorem frzL_bytes {n0 : Nat} {h : Heap} : ∀ l : List UInt8, frzL n0 h (ofBytes l) = some (ofBytes l)
  | [] => rfl
  | b :: l => by rw [ofBytes_cons]; simp [frzL, frz, frzL_bytes l]
theorem Zfv {x : Value} : leafs (.v x) = 1 := rfl
theorem Zfw {l : List AV} : leafs (.agg l) = leafsL l := rfl
theorem Zfx {id g i o : Nat} {p : List Nat} : leafs (.ptr id g i p o) = 1 := rfl
theorem Zfy {id g i o : Nat} : leafs (.sl id g i o) = 1 := rfl
theorem Zfz {k : Nat} {b : Bool} {l : List AV} : leafs (.lit k b l) = 1 := rfl
theorem Zga {x : AV} : leafs (.rop x) = 1 := rfl
theorem Zgb {i : Nat} : leafs (.map i) = 1 := rfl
theorem Zgc {f : Fn} {p q : List AV} : leafs (.fn f p q) = 1 := rfl
theorem Zgd {x : Value} : isAggA (.v x) = false := rfl
theorem Zge {l : List AV} : isAggA (.agg l) = true := rfl
theorem Zgf {id g i o : Nat} {p : List Nat} : isAggA (.ptr id g i p o) = false := rfl
theorem Zgg {id g i o : Nat} : isAggA (.sl id g i o) = false := rfl
theorem Zgh {k : Nat} {b : Bool} {l : List AV} : isAggA (.lit k b l) = false := rfl
theorem Zgi {x : Value} : isTupA (.v x) = false := rfl
theorem Zgj {l : List AV} : isTupA (.agg l) = false := rfl
theorem Zgk {id g i o : Nat} {p : List Nat} : isTupA (.ptr id g i p o) = false := rfl
theorem Zgl {id g i o : Nat} : isTupA (.sl id g i o) = false := rfl
theorem Zgm {k : Nat} {b : Bool} {l : List AV} : isTupA (.lit k b l) = false := rfl
theorem Zfs {a k : Nat} : (a + k < a) = False := eq_false (by omega)
theorem Zft {a : Nat} : (a < a) = False := eq_false (by omega)
theorem leafs_ofBytes (l : List UInt8) : leafsL (ofBytes l) = l.length := by
  rw [allK_leafs (allK_bytes l)]; simp [ofBytes]
theorem ia_arr {P : Program} {h : Heap} {t e n id g i o j : Nat} {p : List Nat} (hu : P.underlying t = some (.array n e)) (hs : szOf P e = some 1) (hj : j < n) : indexAddrE P h t (.ptr id g i p o) (.v (.int .i64 (j : Nat))) = some (.ptr id g i (p ++ [j]) (o + j)) := by
  have h1 : (0 : Int) ≤ j := by omega
  have h2 : (j : Int) < n := by omega
  simp [indexAddrE, hu, hs, idx, h1, h2]
theorem ia_lit {P : Program} {h : Heap} {t e k j : Nat} {b : Bool} {l : List AV} {y : AV} {kd : IntKind} (hu : P.underlying t = some (.slice e)) (hs : szOf P e = some k) (hy : l[j]? = some y) : indexAddrE P h t (.lit k b l) (.v (.int kd (j : Nat))) = some (.rop y) := by
  have h2 : (j : Int) < l.length := by have := (List.getElem?_eq_some_iff.1 hy).1; omega
  simp only [indexAddrE, hu, hs, idx, h2, decide_true, Int.natCast_nonneg, Bool.true_and, cond_true, Int.toNat_natCast, hy, Nat.beq_refl]
theorem ia_sl {P : Program} {h : Heap} {t e k j id g len : Nat} {els : List AV} {ex : Tag} {kd : IntKind} (hu : P.underlying t = some (.slice e)) (hs : szOf P e = some k) (hr : h[id]? = some (.row k g els ex)) (hj : j < len) : indexAddrE P h t (.sl id g 0 len) (.v (.int kd (j : Nat))) = some (.ptr id g j [] 0) := by
  have h2 : (j : Int) < len := by omega
  simp [indexAddrE, hu, hs, idx, h2, hr]
theorem wrapN {n : Nat} (h : n ≤ 9223372036854775807) : IntKind.i64.wrap (n : Int) = n := wrap_i64 (by omega) (by omega)
theorem wrapN1 {n : Nat} (h : n < 9223372036854775807) : IntKind.i64.wrap ((n : Int) + 1) = ((n + 1 : Nat) : Int) := by
  rw [wrap_i64 (by omega) (by omega)]; omega
theorem Zdy {E : Env} {st : St} {a : Tmp} {t : TypeId} {rs : List ResultVar} : resultsE E.P st (.cell a t :: rs) = match ap1 (loadE E.P st.h t) (AM.get st.fr a), resultsE E.P st rs with
    | some y, some ys => some (y :: ys)
    | _, _ => none := by
  show (match resultE E.P st (.cell a t), resultsE E.P st rs with | some y, some ys => some (y :: ys) | _, _ => none) = _
  unfold resultE ap1
  rfl
theorem Zdw {n0 : Nat} {l : List Nat} : mergeLt n0 [n0] l = l := mergeLt_ge (by simp)
theorem Zdx {n0 k : Nat} {l : List Nat} : mergeLt n0 [n0 + k] l = l := mergeLt_ge (by simp)

theorem strOf_one {h : Heap} {b : Bool} {n : Int} : strOf h (.lit 1 b [.v (.int .u8 n)]) = some (strB [UInt8.ofNat n.toNat]) := rfl
theorem strOf_isl {h : Heap} {id g i o k len n : Nat} {p : List Nat} {els : List AV} {z : AV} {l : List UInt8} {ex : Tag} (hr : h[id]? = some (.row k g els ex)) (hz : els[i]? = some z) (hn : nav z p o = some (.agg (ofBytes l))) (hl : l.length = n) (hb : len ≤ n) :
    strOf h (.isl id g i p o 1 0 len n) = some (strB (l.take len)) := by
  have h1 : (ofBytes l).length = n := by rw [ofBytes_len, hl]
  have h2 : (ofBytes l).take len = ofBytes (l.take len) := by simp [ofBytes, List.map_take]
  simp [strOf, elsOf, hr, hz, hn, h1, allK_bytes, bleE, hb, h2, bytesL_of, strB]
theorem sl_arr {P : Program} {h : Heap} {t e id g i o n : Nat} {p : List Nat} {kd : IntKind} {q : Int} (hu : P.underlying t = some (.array n e)) (hs : szOf P e = some 1) (h0 : 0 ≤ q) (hq : q ≤ n) :
    sliceE P h t (.ptr id g i p o) none (some (.v (.int kd q))) none = some (.isl id g i p o 1 0 q.toNat n) := by
  have h1 : (0 : Int) ≤ q := h0
  simp [sliceE, hu, hs, bound, h1, hq]
theorem sl_hi {P : Program} {h : Heap} {t : TypeId} {l : List UInt8} {kd : IntKind} {q : Int} (hu : P.underlying t = some .string) (h0 : 0 ≤ q) (h1 : q ≤ l.length) : sliceE P h t (.v (.string (strB l))) none (some (.v (.int kd q))) none = some (.v (.string (strB (l.take q.toNat)))) := by
  have e : (strB l).extract 0 q.toNat = strB (l.take q.toNat) := by rw [strB_extract]; simp
  simp [sliceE, hu, bound, strB_size, h0, h1, e]
theorem sl_lo {P : Program} {h : Heap} {t : TypeId} {l : List UInt8} {kd : IntKind} {q : Int} (hu : P.underlying t = some .string) (h0 : 0 ≤ q) (h1 : q ≤ l.length) : sliceE P h t (.v (.string (strB l))) (some (.v (.int kd q))) none none = some (.v (.string (strB (l.drop q.toNat)))) := by
  have e : (strB l).extract q.toNat l.length = strB (l.drop q.toNat) := by rw [strB_extract, List.take_of_length_le (by simp)]
  simp [sliceE, hu, bound, strB_size, h0, h1, e]
theorem sl_all {P : Program} {h : Heap} {t e id g i o n : Nat} {p : List Nat} (hu : P.underlying t = some (.array n e)) (hs : szOf P e = some 1) : sliceE P h t (.ptr id g i p o) none none none = some (.isl id g i p o 1 0 n n) := by
  simp [sliceE, hu, hs, bound]
theorem end0s {h l : Heap} {i : Nat} {r : Row} : (h.set i r ++ l)[h.length]? = l[0]? := by rw [List.getElem?_append_right (by simp)]; simp
theorem end1s {h l : Heap} {i k : Nat} {r : Row} : (h.set i r ++ l)[h.length + k]? = l[k]? := by rw [List.getElem?_append_right (by simp)]; simp
theorem endS0s {h l : Heap} {i : Nat} {r r' : Row} : (h.set i r ++ l).set h.length r' = h.set i r ++ l.set 0 r' := by rw [List.set_append_right _ _ (by simp)]; simp
theorem endS1s {h l : Heap} {i k : Nat} {r r' : Row} : (h.set i r ++ l).set (h.length + k) r' = h.set i r ++ l.set k r' := by rw [List.set_append_right _ _ (by simp)]; simp
theorem setFrom_bytes : ∀ (s l : List UInt8), s.length ≤ l.length → setFrom (ofBytes l) 0 (ofBytes s) = ofBytes (s ++ l.drop s.length) := by
  have key : ∀ (s l pre : List UInt8), s.length ≤ l.length → setFrom (ofBytes (pre ++ l)) pre.length (ofBytes s) = ofBytes (pre ++ (s ++ l.drop s.length)) := by
    intro s
    induction s with
    | nil => intro l pre _; rfl
    | cons b s ih =>
      intro l pre hl
      cases l with
      | nil => simp at hl
      | cons c l =>
        rw [ofBytes_cons]
        unfold setFrom
        have h1 : (ofBytes (pre ++ c :: l)).set pre.length (.v (.int .u8 b.toNat)) = ofBytes ((pre ++ [b]) ++ l) := by
          simp [ofBytes]
        rw [h1]
        have := ih l (pre ++ [b]) (by simpa using hl)
        simp only [List.length_append, List.length_singleton] at this
        rw [this]
        simp
  intro s l h
  have := key s l [] h
  simpa using this
theorem cp_none {P : Program} {h : Heap} {d x e id g i o k : Nat} {p : List Nat} (hd : P.underlying d = some (.slice e)) (hs : szOf P e = some 1) (hx : P.underlying x = some .string) : copyE P h #[d, x] (.isl id g i p o 1 0 k k) (.v (.string (strB []))) = some (vInt 0, h, none, .quiet) := by
  simp [copyE, hd, hs, srcEls, hx, sliceLen, strB, ofBytes]
theorem cp_str {P : Program} {h : Heap} {d x e id g i o k kr : Nat} {p : List Nat} {els : List AV} {ex : Tag} {z z' : AV} {l s : List UInt8} (hd : P.underlying d = some (.slice e)) (hs : szOf P e = some 1) (hx : P.underlying x = some .string)
    (hr : h[id]? = some (.row kr g els ex)) (he : els[i]? = some z) (hn : nav z p o = some (.agg (ofBytes l))) (hl : l.length = k) (h0 : s ≠ []) (hk : s.length ≤ k) (hp : put z p o (.agg (ofBytes (s ++ l.drop s.length))) = some z') :
    copyE P h #[d, x] (.isl id g i p o 1 0 k k) (.v (.string (strB s))) = some (vInt s.length, h.set id (.row kr g (els.set i z') ex), some (id, false), .w) := by
  have h1 : min (ofBytes s).length k = s.length := by rw [ofBytes_len]; omega
  have h2 : (ofBytes s).take s.length = ofBytes s := List.take_of_length_le (by rw [ofBytes_len]; omega)
  have h3 : Nat.beq s.length 0 = false := by rw [beqE]; exact decide_eq_false (by cases s with | nil => exact (h0 rfl).elim | cons a l => simp)
  have h4 := setFrom_bytes s l (by omega)
  have h5 : (ofBytes l).length = k := by rw [ofBytes_len, hl]
  have hsrc : srcEls P [] h x e 1 (.v (.string (strB s))) = some (ofBytes s) := by rw [src_str hx, strB_data]
  unfold copyE
  rw [show (#[d, x] : Array TypeId)[0]? = some d from rfl, show (#[d, x] : Array TypeId)[1]? = some x from rfl]
  simp only [hd, hs, hsrc, Zfg, h1, h2, h3, cond_false, hr, he, hn, h5, allK_bytes, h4, hp, Zfu]
  simp [bleE]
theorem Zgn {h0 h : Heap} {r : AV} {ds : List Nat} : fzO h0 r h ds none = (r, h, ⟨ds, [], false⟩) := rfl
theorem clsOf_eq {E : Env} {f : FuncId} {o : Oper} {fr : FR} : clsOf E f o fr = clsOf E f o fr := rfl

/-! ### Loops -/
theorem get_keepF : ∀ {l : List Nat} {fr : FR} {t : Nat}, t ∈ l → AM.get (keepF l fr) t = AM.get fr t
  | [], _, _, h => by cases h
  | s :: l, fr, t, h => by
    simp only [keepF]
    by_cases hs : s = t
    · subst hs
      cases hg : AM.get fr s with
      | none =>
        simp only
        by_cases hm : s ∈ l
        · rw [get_keepF hm, hg]
        · have : ∀ {l : List Nat}, s ∉ l → AM.get (keepF l fr) s = none := by
            intro l
            induction l with
            | nil => intro _; rfl
            | cons a l ih =>
              intro hn
              simp only [List.mem_cons, not_or] at hn
              simp only [keepF]
              cases AM.get fr a with
              | none => exact ih hn.2
              | some y =>
                show AM.get ((a, y) :: keepF l fr) s = none
                rw [Zbp, if_neg (Ne.symm hn.1)]
                exact ih hn.2
          exact this hm
      | some y => simp only; rw [Zbp, if_pos rfl]
    · have hm : t ∈ l := by
        rcases List.mem_cons.1 h with h | h
        · exact (hs h.symm).elim
        · exact h
      cases hg : AM.get fr s with
      | none => exact get_keepF hm
      | some y => simp only; rw [Zbp, if_neg hs]; exact get_keepF hm
theorem keepF_keepF {l : List Nat} {fr : FR} : ∀ {r : List Nat}, (∀ t ∈ r, t ∈ l) → keepF r (keepF l fr) = keepF r fr
  | [], _ => rfl
  | t :: r, h => by
    simp only [keepF]
    rw [get_keepF (h t (List.mem_cons_self ..)), keepF_keepF fun s hs => h s (List.mem_cons_of_mem _ hs)]
theorem loopN_mask {body : St → Option (Ex × St)} {l : List Nat} {n : Nat} {fr : FR} {h : Heap} {ds ls : List Nat} : loopN body l n ⟨fr, h, ds, ls⟩ = loopN body l n ⟨keepF l fr, h, ds, ls⟩ := by
  cases n with
  | zero => rfl
  | succ n =>
    show (match body ⟨keepF l fr, h, ds, ls⟩ with | some (.normal, st') => loopN body l n st' | r => r) = (match body ⟨keepF l (keepF l fr), h, ds, ls⟩ with | some (.normal, st') => loopN body l n st' | r => r)
    rw [keepF_keepF fun _ h => h]
theorem Zfp {E : Env} {K : CallK} {nl f nt n0 : Nat} {k : List Fr} {b : Code} {fr : FR} {h : Heap} {ds ls : List Nat} : at_ E K nl f nt n0 k (.loop b) fr h ds ls = lp E K nl f nt n0 k (loopN (exec E K nl f nt n0 b) (E.masks f) nl ⟨keepF (E.masks f) fr, h, ds, ls⟩) := by
  rw [at_loop, loopN_mask]
theorem Zfq {t : Nat} {ts : List Nat} {fr : FR} : keepF (t :: ts) fr = match AM.get fr t with
    | some y => (t, y) :: keepF ts fr
    | none => keepF ts fr := rfl
theorem Zfr {fr : FR} : keepF [] fr = [] := rfl
/-- The bodies of a function's loops, from the outside in. -/
def loopsIn : Code → List Code
  | .seq a b => loopsIn a ++ loopsIn b
  | .cond _ a b => loopsIn a ++ loopsIn b
  | .block _ b => loopsIn b
  | .loop b => b :: loopsIn b
  | .scope b => loopsIn b
  | _ => []
def loopB (fn : Func) (i : Nat) : Code := match fn.body with
  | some c => (loopsIn c).getD i .skip
  | none => .skip
theorem loopN_step {body : St → Option (Ex × St)} {l : List Nat} {n : Nat} {fr : FR} {h : Heap} {ds ls : List Nat} {fr' : FR} {h' : Heap} {ds' ls' : List Nat} (hb : body ⟨keepF l fr, h, ds, ls⟩ = some (.normal, ⟨fr', h', ds', ls'⟩)) :
    loopN body l (n + 1) ⟨fr, h, ds, ls⟩ = loopN body l n ⟨fr', h', ds', ls'⟩ := by
  show (match body ⟨keepF l fr, h, ds, ls⟩ with | some (.normal, st') => loopN body l n st' | r => r) = _
  rw [hb]
theorem loopN_out {body : St → Option (Ex × St)} {l : List Nat} {n i : Nat} {fr : FR} {h : Heap} {ds ls : List Nat} {st : St} (hb : body ⟨keepF l fr, h, ds, ls⟩ = some (.exit i, st)) :
    loopN body l (n + 1) ⟨fr, h, ds, ls⟩ = some (.exit i, st) := by
  show (match body ⟨keepF l fr, h, ds, ls⟩ with | some (.normal, st') => loopN body l n st' | r => r) = _
  rw [hb]
theorem loopN_ret {body : St → Option (Ex × St)} {l : List Nat} {n : Nat} {fr : FR} {h : Heap} {ds ls : List Nat} {st : St} (hb : body ⟨keepF l fr, h, ds, ls⟩ = some (.ret, st)) :
    loopN body l (n + 1) ⟨fr, h, ds, ls⟩ = some (.ret, st) := by
  show (match body ⟨keepF l fr, h, ds, ls⟩ with | some (.normal, st') => loopN body l n st' | r => r) = _
  rw [hb]
theorem exec_code {E : Env} {K : CallK} {nl f nt n0 : Nat} {c : Code} {fr : FR} {h : Heap} {ds ls : List Nat} : exec E K nl f nt n0 c ⟨fr, h, ds, ls⟩ = at_ E K nl f nt n0 [] c fr h ds ls := exec_at

end Go.AM
