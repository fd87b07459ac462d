/- Routes sorted by their prefixes: what Go's library does. Conditions: none. -/
import Derived.Test.YtobdjegooonklaaGreatAmOrd
import Derived.Test.YtobdjegooonklaaGreatAmCmp
import Derived.Test.YtobdjegooonklaaGreatAmSeat1
set_option linter.unusedSimpArgs false
set_option linter.unusedVariables false
set_option maxRecDepth 100000
namespace Go.Proofs.YtobdjegooonklaaGreat
open Go Go.AM Go.Shelf

def sort84_ren : Go.Shelf.Ren := ⟨fun | 6 => 84 | 15 => 107 | 14 => 106 | 28 => 125 | 29 => 126 | 20 => 117 | 21 => 118 | 22 => 119 | 23 => 120 | 24 => 121 | 25 => 122 | 26 => 123 | 27 => 124 | 46 => 137 | 47 => 138 | 48 => 139 | 49 => 140 | 50 => 141 | 57 => 146 | n => n, fun | 22 => 36 | 24 => 58 | 25 => 97 | 3 => 3 | 39 => 122 | 0 => 0 | 53 => 56 | 55 => 71 | 4 => 4 | 46 => 176 | 45 => 175 | 50 => 147 | 5 => 5 | 9 => 9 | 66 => 189 | 70 => 192 | 76 => 196 | 77 => 197 | n => n, fun | n => n⟩
theorem sort84 : Go.Proofs.SlLaysF0.n6 Tryz.prog sort84_ren := {
  mixed := by kernel_rfl
  f6 := ⟨Tryz.f84.name, by decide, Tryz.func84.trans (congrArg some (by kernel_rfl))⟩
  f14 := ⟨Tryz.f106.name, by decide, Tryz.func106.trans (congrArg some (by kernel_rfl))⟩
  f15 := Tryz.func107.trans (congrArg some (by kernel_rfl))
  f20 := ⟨Tryz.f117.name, by decide, Tryz.func117.trans (congrArg some (by kernel_rfl))⟩
  f21 := ⟨Tryz.f118.name, by decide, Tryz.func118.trans (congrArg some (by kernel_rfl))⟩
  f22 := ⟨Tryz.f119.name, by decide, Tryz.func119.trans (congrArg some (by kernel_rfl))⟩
  f23 := ⟨Tryz.f120.name, by decide, Tryz.func120.trans (congrArg some (by kernel_rfl))⟩
  f24 := ⟨Tryz.f121.name, by decide, Tryz.func121.trans (congrArg some (by kernel_rfl))⟩
  f25 := ⟨Tryz.f122.name, by decide, Tryz.func122.trans (congrArg some (by kernel_rfl))⟩
  f26 := ⟨Tryz.f123.name, by decide, Tryz.func123.trans (congrArg some (by kernel_rfl))⟩
  f27 := ⟨Tryz.f124.name, by decide, Tryz.func124.trans (congrArg some (by kernel_rfl))⟩
  f28 := Tryz.func125.trans (congrArg some (by kernel_rfl))
  f29 := Tryz.func126.trans (congrArg some (by kernel_rfl))
  f46 := ⟨Tryz.f137.name, by decide, Tryz.func137.trans (congrArg some (by kernel_rfl))⟩
  f47 := Tryz.func138.trans (congrArg some (by kernel_rfl))
  f48 := Tryz.func139.trans (congrArg some (by kernel_rfl))
  f49 := ⟨Tryz.f140.name, by decide, Tryz.func140.trans (congrArg some (by kernel_rfl))⟩
  f50 := ⟨Tryz.f141.name, by decide, Tryz.func141.trans (congrArg some (by kernel_rfl))⟩
  f57 := ⟨Tryz.f146.name, by decide, Tryz.func146.trans (congrArg some (by kernel_rfl))⟩
  t0 := Tryz.underlying0
  a0 := Tryz.isAgg0
  z0 := Tryz.sizeOf0
  v0 := Tryz.zeroValue0
  t3 := Tryz.underlying3
  a3 := Tryz.isAgg3
  z3 := Tryz.sizeOf3
  v3 := Tryz.zeroValue3
  t4 := Tryz.underlying4
  a4 := Tryz.isAgg4
  z4 := Tryz.sizeOf4
  v4 := Tryz.zeroValue4
  t5 := Tryz.underlying5
  a5 := Tryz.isAgg5
  z5 := Tryz.sizeOf5
  v5 := Tryz.zeroValue5
  t9 := Tryz.underlying9
  a9 := Tryz.isAgg9
  z9 := Tryz.sizeOf9
  v9 := Tryz.zeroValue9
  t22 := Tryz.underlying36
  a22 := Tryz.isAgg36
  z22 := Tryz.sizeOf36
  v22 := Tryz.zeroValue36
  t25 := Tryz.underlying97
  a25 := Tryz.isAgg97
  z25 := Tryz.sizeOf97
  v25 := Tryz.zeroValue97
  t39 := Tryz.underlying122
  a39 := Tryz.isAgg122
  z39 := Tryz.sizeOf122
  v39 := Tryz.zeroValue122
  t45 := Tryz.underlying175
  a45 := Tryz.isAgg175
  z45 := Tryz.sizeOf175
  v45 := Tryz.zeroValue175
  t46 := Tryz.underlying176
  a46 := Tryz.isAgg176
  z46 := Tryz.sizeOf176
  v46 := Tryz.zeroValue176
  t50 := Tryz.underlying147
  a50 := Tryz.isAgg147
  z50 := Tryz.sizeOf147
  v50 := Tryz.zeroValue147
  t53 := Tryz.underlying56
  a53 := Tryz.isAgg56
  z53 := Tryz.sizeOf56
  v53 := Tryz.zeroValue56
  t55 := Tryz.underlying71
  a55 := Tryz.isAgg71
  z55 := Tryz.sizeOf71
  v55 := Tryz.zeroValue71
  t66 := Tryz.underlying189
  a66 := Tryz.isAgg189
  z66 := Tryz.sizeOf189
  v66 := Tryz.zeroValue189
  t70 := Tryz.underlying192
  a70 := Tryz.isAgg192
  z70 := Tryz.sizeOf192
  v70 := Tryz.zeroValue192
  t76 := Tryz.underlying196
  a76 := Tryz.isAgg196
  z76 := Tryz.sizeOf196
  v76 := Tryz.zeroValue196
  t77 := Tryz.underlying197
  a77 := Tryz.isAgg197
  z77 := Tryz.sizeOf197
  v77 := Tryz.zeroValue197 }

/-- A route whose address has its sixteen bytes. -/
abbrev RR := { r : Route // r.to.ad.length = 16 }
instance : Inhabited RR := ⟨⟨⟨⟨false, List.replicate 16 0, 0⟩, 0, 0⟩, by simp⟩⟩
def encR (x : RR) : List Value := x.1.cells
def avR (x : RR) : AV := x.1.av
def cfR (x y : RR) : Int := cmpP x.1.to y.1.to

theorem encR_len (x : RR) : (encR x).length = 20 := by
  have := x.2
  simp [encR, Route.cells, Pre.cells, this]
theorem avR_toV (x : RR) : ∃ v, toV (avR x) = some v ∧ v.cells.toList = encR x := ⟨_, Route.toV x.1, by simp [Value.cells, encR]⟩
theorem encR_one (x : RR) : ∀ v ∈ encR x, v.oneCell' = true := by
  obtain ⟨v, h1, h2⟩ := avR_toV x
  rw [← h2]
  exact VRel.one (F := fun _ => none) (m := m0) (avR x) v (toV_self _ _ h1).1 (toV_self (F := fun _ => none) (m := m0) _ _ h1).2

theorem cfR_lex (x y : RR) : cfR x y = lexI x.1.to.key y.1.to.key := cmpP_lex x.2 y.2
theorem swoR : Sort.SWO (Go.Proofs.ltOf cfR) := by
  refine ⟨fun x => ?_, fun x y z h1 h2 => ?_, fun x y z h1 h2 => ?_⟩
  · simp [Go.Proofs.ltOf, cfR_lex, lexI_self]
  · simp only [Go.Proofs.ltOf, cfR_lex, decide_eq_true_eq] at *
    exact lexI_lt h1 h2
  · simp only [Go.Proofs.ltOf, cfR_lex, decide_eq_false_iff_not] at *
    intro h3
    have n1 := lexI_neg x.1.to.key y.1.to.key
    have n2 := lexI_neg y.1.to.key z.1.to.key
    by_cases e1 : lexI x.1.to.key y.1.to.key = 0
    · rw [lexI_zero e1] at h3; exact h2 h3
    · by_cases e2 : lexI y.1.to.key z.1.to.key = 0
      · rw [← lexI_zero e2] at h3; exact h1 h3
      · have := lexI_lt (a := z.1.to.key) (b := y.1.to.key) (c := x.1.to.key) (by omega) (by omega)
        have n3 := lexI_neg x.1.to.key z.1.to.key
        omega

theorem agg58 : prun Tryz.prog (isAgg 58) = some true := by kernel_rfl
theorem size58 : prun Tryz.prog (Go.sizeOf 58) = some 20 := by kernel_rfl

/-- New's closure, in whatever world. -/
theorem closure48 (x y : RR) (W : World) : Calls Tryz.prog 48 #[.agg (encR x).toArray, .agg (encR y).toArray] W fun e w' => e = .returned (.int .i64 (cfR x y)) ∧ ∃ q os', w' = Sort.grow (W.drewN q) os' := by
  have hv : VL (F0 W) m0 [avR x, avR y] [.agg (encR x).toArray, .agg (encR y).toArray] := by
    simp only [VL]
    exact ⟨_, _, (toV_self _ _ (Route.toV x.1)).1, ⟨_, _, (toV_self _ _ (Route.toV y.1)).1, rfl, rfl⟩, rfl⟩
  exact num_calls e0_ok Tryz.func48 rfl rfl (Early.c48 0 x.1 y.1 x.2 y.2 []) hv

def pdqR (d : List RR) : List RR := (Sort.pdq (Go.Proofs.ltOf cfR) d.toArray 0 d.length (Lib.bitLen d.length) true true).toList

theorem sort_calls (blk cap : Nat) (d : List RR) (w : World) (hH : Sort.HoldsK encR 20 w blk 0 d.toArray) (hblk : blk < w.heap.size) (hsz : d.length < 4611686018427387904) :
    Calls Tryz.prog 84 #[.slice (some ⟨blk, 0, none⟩) d.length cap, .func (.func 48) #[] #[]] w fun e w' => e = .returned (.tuple #[]) ∧ ∃ n os, w' = Go.Proofs.sortWorldK encR 20 w blk 0 n (pdqR d).toArray os := by
  have key := Go.Proofs.AnyQ.slices_SortFunc_eq sort84 20 (fun w => prun_run _ _ agg58 w) (fun w => prun_run _ _ size58 w) encR encR_len encR_one cfR swoR 48 #[] blk 0 cap d.toArray w (enters Tryz.func48 rfl rfl) (fun m os dk _ x y => closure48 x y _) hH hblk (by simpa using hsz)
  change Calls Tryz.prog 84 _ _ _ at key
  simpa [pdqR] using key

theorem pdqR_perm (d : List RR) : (pdqR d).Perm d ∧ (pdqR d).Pairwise (fun a b => cfR a b ≤ 0) := by
  obtain ⟨⟨h1, _, h2⟩, h3⟩ := Sort.pdq_sorts (Go.Proofs.ltOf cfR) swoR d.toArray 0 d.length (Lib.bitLen d.length) true true (Nat.zero_le _) (by simp) (.inl rfl)
  have hs : (pdqR d).length = d.length := by simpa [pdqR] using h1
  refine ⟨?_, ?_⟩
  · have e1 : ((Sort.pdq (Go.Proofs.ltOf cfR) d.toArray 0 d.length (Lib.bitLen d.length) true true).extract 0 d.length).toList = pdqR d := by
      rw [Array.toList_extract]
      simp only [pdqR] at hs ⊢
      simp [List.take_of_length_le, hs]
    have e2 : (d.toArray.extract 0 d.length).toList = d := by simp
    rw [e1, e2] at h2
    exact h2
  · rw [List.pairwise_iff_getElem]
    intro i j hi hj hij
    have := h3 i j (Nat.zero_le _) hij (by omega)
    have g : ∀ (n : Nat) (hn : n < (pdqR d).length), (Sort.pdq (Go.Proofs.ltOf cfR) d.toArray 0 d.length (Lib.bitLen d.length) true true)[n]! = (pdqR d)[n] := fun n hn => by
      rw [getElem!_pos _ n (by simpa [pdqR] using hn)]
      rfl
    rw [g i hi, g j hj] at this
    simp only [Go.Proofs.ltOf, decide_eq_false_iff_not] at this
    have n1 := lexI_neg ((pdqR d)[i]).1.to.key ((pdqR d)[j]).1.to.key
    rw [cfR_lex] at this ⊢
    omega

/-! ### A plain sort that comes to the same where no two are alike -/
def insR (x : RR) : List RR → List RR
  | [] => [x]
  | y :: l => bif decide (cfR x y ≤ 0) then x :: y :: l else y :: insR x l
def isortR : List RR → List RR
  | [] => []
  | x :: l => insR x (isortR l)
def strictR : List RR → Bool
  | [] => true
  | [_] => true
  | x :: y :: l => decide (cfR x y < 0) && strictR (y :: l)
def sortR (d : List RR) : List RR := bif strictR (isortR d) then isortR d else pdqR d

theorem insR_perm (x : RR) : ∀ l : List RR, (insR x l).Perm (x :: l)
  | [] => .refl _
  | y :: l => by
    unfold insR
    cases decide (cfR x y ≤ 0) with
    | true => exact .refl _
    | false => exact ((insR_perm x l).cons y).trans (.swap x y l)
theorem isortR_perm : ∀ l : List RR, (isortR l).Perm l
  | [] => .refl _
  | x :: l => (insR_perm x _).trans ((isortR_perm l).cons x)
theorem strictR_pairwise : ∀ {l : List RR}, strictR l = true → l.Pairwise (fun a b => cfR a b < 0)
  | [], _ => .nil
  | [_], _ => by simp
  | x :: y :: l, h => by
    simp only [strictR, Bool.and_eq_true, decide_eq_true_eq] at h
    have ih := strictR_pairwise h.2
    refine List.pairwise_cons.2 ⟨fun z hz => ?_, ih⟩
    rcases List.mem_cons.1 hz with rfl | hz
    · exact h.1
    · have := (List.pairwise_cons.1 ih).1 z hz
      have h1 := h.1
      rw [cfR_lex] at *
      exact lexI_lt h1 this
theorem perm_unique : ∀ {a b : List RR}, a.Perm b → a.Pairwise (fun x y => cfR x y < 0) → b.Pairwise (fun x y => cfR x y ≤ 0) → a = b
  | [], b, h, _, _ => (h.symm.eq_nil).symm
  | x :: a, [], h, _, _ => by have := h.length_eq; simp at this
  | x :: a, y :: b, h, h1, h2 => by
    obtain ⟨h3, h4⟩ := List.pairwise_cons.1 h1
    obtain ⟨h5, h6⟩ := List.pairwise_cons.1 h2
    by_cases hxy : x = y
    · subst hxy
      rw [perm_unique (List.Perm.cons_inv h) h4 h6]
    · have m1 : x ∈ b := by
        rcases List.mem_cons.1 (h.subset (List.mem_cons_self ..)) with h | h
        · exact (hxy h).elim
        · exact h
      have m2 : y ∈ a := by
        rcases List.mem_cons.1 (h.symm.subset (List.mem_cons_self ..)) with h | h
        · exact (hxy h.symm).elim
        · exact h
      have c1 := h3 y m2
      have c2 := h5 x m1
      rw [cfR_lex] at c1 c2
      have := lexI_neg x.1.to.key y.1.to.key
      omega
theorem sortR_pdq (d : List RR) : sortR d = pdqR d := by
  unfold sortR
  cases hs : strictR (isortR d) with
  | false => rfl
  | true =>
    obtain ⟨p1, p2⟩ := pdqR_perm d
    exact perm_unique ((isortR_perm d).trans p1.symm) (strictR_pairwise hs) p2
theorem sortR_perm (d : List RR) : (sortR d).Perm d := by rw [sortR_pdq]; exact (pdqR_perm d).1
theorem sortR_sorted (d : List RR) : (sortR d).Pairwise (fun a b => cfR a b ≤ 0) := by rw [sortR_pdq]; exact (pdqR_perm d).2

/-! ### What the abstract machine says of the sort -/
def preDec : AV → Option Pre
  | .agg [.v (.bool s), .agg l, .v (.int .i64 n)] => match bytesL l with
    | some bs => bif bytesOK l then some ⟨s, bs, n⟩ else none
    | none => none
  | _ => none
def routeDec : AV → Option RR
  | .agg [p, .v (.int .i64 m), .v (.int .u32 q)] => match preDec p with
    | some p => if h : p.ad.length = 16 then some ⟨⟨p, m, q⟩, h⟩ else none
    | none => none
  | _ => none
def routesDec : List AV → Option (List RR)
  | [] => some []
  | x :: l => match routeDec x, routesDec l with
    | some r, some d => some (r :: d)
    | _, _ => none

theorem bytes_back : ∀ {l : List AV} {bs : List UInt8}, bytesL l = some bs → bytesOK l = true → l = ofBytes bs
  | [], bs, h, _ => by simp [bytesL] at h; subst h; rfl
  | x :: l, bs, h, ho => by
    simp only [bytesL] at h
    split at h
    · rename_i b bs' h1 h2
      injection h with h
      subst h
      unfold bytesOK at ho
      split at ho
      · contradiction
      · rename_i n l' heq
        injection heq with e1 e2
        subst e1; subst e2
        simp only [Bool.and_eq_true, decide_eq_true_eq] at ho
        obtain ⟨⟨o1, o2⟩, o3⟩ := ho
        simp only [byteOf?, Option.some.injEq] at h1
        subst h1
        rw [bytes_back h2 o3]
        simp only [ofBytes, List.map_cons]
        congr 3
        rw [UInt8.toNat_ofNat']
        omega
      · cases ho
    · cases h
theorem preDec_eq {x : AV} {p : Pre} (h : preDec x = some p) : x = p.av := by
  unfold preDec at h
  split at h
  · rename_i s l n
    split at h
    · rename_i bs hb
      cases ho : bytesOK l with
      | false => simp [ho] at h
      | true =>
        simp only [ho, cond_true, Option.some.injEq] at h
        subst h
        rw [bytes_back hb ho]
        rfl
    · cases h
  · cases h
theorem preDec_av (p : Pre) : preDec p.av = some p := by
  simp [preDec, Pre.av, bytesL_of, bytesOK_of]
theorem routeDec_eq {x : AV} {r : RR} (h : routeDec x = some r) : x = avR r := by
  unfold routeDec at h
  split at h
  · rename_i p m q
    split at h
    · rename_i p' hp
      split at h
      · injection h with h
        subst h
        rw [preDec_eq hp]
        rfl
      · cases h
    · cases h
  · cases h
theorem routeDec_av (r : RR) : routeDec (avR r) = some r := by
  obtain ⟨⟨p, m, q⟩, h⟩ := r
  simp only at h
  simp [routeDec, avR, Route.av, preDec_av, h]
theorem routesDec_eq : ∀ {l : List AV} {d : List RR}, routesDec l = some d → l = d.map avR
  | [], d, h => by simp [routesDec] at h; subst h; rfl
  | x :: l, d, h => by
    simp only [routesDec] at h
    split at h
    · rename_i r d' h1 h2
      injection h with h
      subst h
      rw [routeDec_eq h1, routesDec_eq h2]
      rfl
    · cases h
theorem routesDec_map : ∀ d : List RR, routesDec (d.map avR) = some d
  | [] => rfl
  | r :: d => by simp [routesDec, routeDec_av, routesDec_map d]

/-- Routes sorted where they lie. -/
def ovSort (g : FuncId) : Ov := fun args h => match args with
  | [.v (.slice none 0 0), .fn (.func a) [] []] => bif Nat.beq a g then some (.tup [], h, ⟨[], [], true⟩) else none
  | [.sl id gen 0 len, .fn (.func a) [] []] => bif Nat.beq a g then
      match h[id]? with
      | some (.row k g' els ex) => bif Nat.beq g' gen && (Nat.beq len els.length && (Nat.beq k 20 && (Nat.ble 1 len && Nat.blt len mostSeq))) then
          match routesDec els with
          | some d => some (.tup [], h.set id (.row k g' ((sortR d).map avR) ex), ⟨[id], [], false⟩)
          | none => none
        else none
      | _ => none
    else none
  | _ => none

theorem ovSort_eq {g : FuncId} {args : List AV} {h h' : Heap} {y : AV} {e : Eff} (ho : ovSort g args h = some (y, h', e)) :
    (args = [.v (.slice none 0 0), .fn (.func g) [] []] ∧ y = .tup [] ∧ h' = h ∧ e = ⟨[], [], true⟩) ∨
    ∃ id gen ex d, 1 ≤ d.length ∧ d.length < mostSeq ∧ args = [.sl id gen 0 d.length, .fn (.func g) [] []] ∧ h[id]? = some (.row 20 gen (d.map avR) ex) ∧ y = .tup [] ∧ h' = h.set id (.row 20 gen ((sortR d).map avR) ex) ∧ e = ⟨[id], [], false⟩ := by
  unfold ovSort at ho
  split at ho
  · rename_i a
    cases hb : Nat.beq a g with
    | false => simp [hb] at ho
    | true =>
      have := Nat.eq_of_beq_eq_true hb
      subst this
      simp only [hb, cond_true, Option.some.injEq, Prod.mk.injEq] at ho
      obtain ⟨rfl, rfl, rfl⟩ := ho
      exact .inl ⟨rfl, rfl, rfl, rfl⟩
  · rename_i id gen len a
    cases hb : Nat.beq a g with
    | false => simp [hb] at ho
    | true =>
      have := Nat.eq_of_beq_eq_true hb
      subst this
      simp only [hb, cond_true] at ho
      split at ho
      · rename_i k g' els ex hr
        cases hz : (Nat.beq g' gen && (Nat.beq len els.length && (Nat.beq k 20 && (Nat.ble 1 len && Nat.blt len mostSeq)))) with
        | false => simp [hz] at ho
        | true =>
          simp only [hz, cond_true] at ho
          simp only [Bool.and_eq_true] at hz
          have e1 := Nat.eq_of_beq_eq_true hz.1
          have e2 := Nat.eq_of_beq_eq_true hz.2.1
          have e3 := Nat.eq_of_beq_eq_true hz.2.2.1
          have e5 := Nat.le_of_ble_eq_true hz.2.2.2.1
          have e6 : els.length < mostSeq := by rw [← e2]; exact Nat.le_of_ble_eq_true hz.2.2.2.2
          subst e1; subst e2; subst e3
          split at ho
          · rename_i d hd
            have e4 := routesDec_eq hd
            subst e4
            simp only [Option.some.injEq, Prod.mk.injEq] at ho
            obtain ⟨rfl, rfl, rfl⟩ := ho
            exact .inr ⟨id, g', ex, d, by simpa using e5, by simpa using e6, by simp, hr, rfl, rfl, rfl⟩
          · cases ho
      · cases ho
  · cases ho

theorem nil84 (h : Heap) : call E0 300 84 [.v (.slice none 0 0), .fn (.func 48) [] []] h = some (.tup [], h, ⟨[], [], true⟩) := by kernel_rfl

theorem ovSort_ok : OvOK Tryz.prog 84 (ovSort 48) := by
  have ef : ∀ args w, (callFunc 84 args).run Tryz.prog w = .ok (.enter 84 args) w := enters Tryz.func84 rfl rfl
  refine ⟨fun args h y h' e ho F m w vs r hv next hnx => ?_, fun args h y h' e ho hq => ?_, fun args h y h' e ho => ?_⟩ <;> rcases ovSort_eq ho with ⟨rfl, rfl, rfl, rfl⟩ | ⟨id, gen, ex, d, hd1, hd2, rfl, hi, rfl, rfl, rfl⟩
  · exact (call_ok e0_ok 300).1 _ _ _ _ _ _ (nil84 h') F m w vs r hv next hnx
  · simp only [VL] at hv
    obtain ⟨v1, _, h1, ⟨v2, _, h2, rfl, rfl⟩, rfl⟩ := hv
    simp only [VRel, VL] at h2
    obtain ⟨_, _, rfl, rfl, rfl⟩ := h2
    obtain ⟨g, C, hm, hlt, hC, hmost, hH, hw⟩ := sort_row r hi encR_len avR_toV
    simp only [VRel] at h1
    obtain ⟨g1, C1, k1, ad, q1, q2, q3, q4, q5, rfl⟩ := h1
    rw [hm] at q1
    simp only [Option.some.injEq, Prod.mk.injEq] at q1
    obtain ⟨rfl, rfl, rfl⟩ := q1
    have h0 : 0 < C := by omega
    have had : ad = ⟨g, 0, none⟩ := addr_eq q3 (by rw [q5 h0, Nat.zero_mul]) q4
    subst had
    have key := sort_calls g (C - 0) d w hH hlt (by have : d.length < 1000000 := hd2
                                                    omega)
    rw [show [Value.slice (some ⟨g, 0, none⟩) d.length (C - 0), .func (.func 48) ([] : List Value).toArray ([] : List Value).toArray].toArray = #[.slice (some ⟨g, 0, none⟩) d.length (C - 0), .func (.func 48) #[] #[]] from rfl, ef]
    simp only [UponC]
    refine key.mono ?_
    rintro e w' ⟨rfl, n, os, rfl⟩
    have hl : (pdqR d).length = d.length := (pdqR_perm d).1.length_eq
    obtain ⟨r1, sm⟩ := hw (pdqR d) n os hl
    rw [← sortR_pdq] at r1 sm ⊢
    exact ⟨_, rfl, hnx _ _ F m (Ext.refl _ _) (by simp [VRel, VL]) r1 sm⟩
  · exact ⟨rfl, rfl, rfl⟩
  · cases hq
  · exact Law.refl _
  · refine Law.set (b := false) hi fun _ n hn => ?_
    simp only [rowLt] at hn ⊢
    rw [idltL_iff]
    intro x hx
    obtain ⟨z, _, rfl⟩ := List.mem_map.1 hx
    obtain ⟨v, v1, _⟩ := avR_toV z
    exact toV_lt n _ v v1

end Go.Proofs.YtobdjegooonklaaGreat
