/- A map walked through. Conditions: none. -/
import Derived.Test.YtobdjegooonklaaGreatAmOne
set_option linter.unusedVariables false
set_option linter.unusedSimpArgs false
namespace Go.AM
open Go

variable {F F' : Fz} {m m' : Mp} {fr : FR} {a : Act} {h : Heap} {w : World} {P : Program}

theorem range_run {t kt e : TypeId} {g c : Nat} {es : Array MapEntry} (hu : P.underlying t = some (.map kt e)) (hg : w.heap[g]? = some (.map es c)) :
    (Instr.range t (.map (some g))).run P w = .ok (.pointer (some ⟨w.heap.size, 0, none⟩)) (w.alloc (.mapIter (some g) c #[] c)) := by
  simp [-bind_pure_comp, Instr.range, run_underlying hu, getObj_run hg]

theorem getIter_run {b g c s : Nat} {seen : Array Nat} (hb : w.heap[b]? = some (.mapIter (some g) c seen s)) : (getObj b).run P w = .ok (.mapIter (some g) c seen s) w := by
  simp [getObj, Sem.run, hb]

theorem setIter_run {b g c s : Nat} {seen : Array Nat} (o : Obj) (hb : w.heap[b]? = some (.mapIter (some g) c seen s)) : (setObj b o).run P w = .ok () (w.putObj b o) := by
  simp [setObj, Sem.run, hb, World.putObj]

theorem filter_none {es : Array MapEntry} {c : Nat} {p : MapEntry → Bool} (hlt : ∀ e ∈ es, e.born < c) : (es.filter p).filter (fun e => decide (e.born ≥ c)) = #[] := by
  rw [Array.filter_eq_empty_iff]
  intro e he
  have := hlt e (Array.mem_of_mem_filter he)
  simp; omega

theorem filter_all {es : Array MapEntry} {c : Nat} {p : MapEntry → Bool} (hlt : ∀ e ∈ es, e.born < c) : (es.filter p).filter (fun e => decide (e.born < c)) = es.filter p := by
  rw [Array.filter_eq_self]
  intro e he
  have := hlt e (Array.mem_of_mem_filter he)
  simpa using this

theorem choose_run {n : Nat} (hn : 0 < n) (w : World) : ∃ j w1, j < n ∧ (choose (.mapNext n)).run P w = .ok j w1 ∧ w1.heap = w.heap ∧ w1.os = w.os ∧ w1.tape = w.tape ∧ w1.output = w.output ∧ w.drawn ≤ w1.drawn := by
  by_cases h1 : n ≤ 1
  · exact ⟨0, w, hn, by simp [choose, Sem.run, Question.forced, h1], rfl, rfl, rfl, rfl, Nat.le_refl _⟩
  · exact ⟨_, { w with drawn := w.drawn + 1 }, Nat.mod_lt (w.tape w.drawn (.mapNext n)) hn, by simp [choose, Sem.run, Question.forced, h1, Question.cut], rfl, rfl, rfl, rfl, Nat.le_succ _⟩

/-- A step of the walk: over, or an entry that has not come. -/
theorem next_run {b g c : Nat} {seen : Array Nat} {es : Array MapEntry} (hb : w.heap[b]? = some (.mapIter (some g) c seen c)) (hg : w.heap[g]? = some (.map es c)) (hlt : ∀ e ∈ es, e.born < c) (ty : TypeId) :
    ((es.filter fun e => !seen.contains e.born) = #[] ∧ (Instr.next (.pointer (some ⟨b, 0, none⟩)) false ty).run P w = .ok (.tuple #[.bool false]) w) ∨
    ∃ e w', e ∈ es ∧ seen.contains e.born = false ∧ (Instr.next (.pointer (some ⟨b, 0, none⟩)) false ty).run P w = .ok (.tuple #[.bool true, e.key, e.val]) w' ∧
      w'.heap = w.heap.setIfInBounds b (.mapIter (some g) c (seen.push e.born) c) ∧ w'.os = w.os ∧ w'.tape = w.tape ∧ w'.output = w.output ∧ w.drawn ≤ w'.drawn := by
  have hst : ¬ ((!seen.isEmpty && !es.isEmpty && es.all (fun e => decide (e.born ≥ c))) = true) := by
    intro hh
    simp only [Bool.and_eq_true] at hh
    obtain ⟨⟨_, h1⟩, h2⟩ := hh
    have hne : 0 < es.size := by
      rcases Nat.eq_zero_or_pos es.size with h0 | h0
      · have : es = #[] := Array.eq_empty_of_size_eq_zero h0
        simp [this] at h1
      · exact h0
    have hm : es[0] ∈ es := Array.getElem_mem hne
    have := hlt _ hm
    rw [Array.all_eq_true] at h2
    have := h2 0 hne
    simp at this
    omega
  have hnew := filter_none (p := fun e => !seen.contains e.born) hlt
  have hold := filter_all (p := fun e => !seen.contains e.born) hlt
  by_cases hem : (es.filter fun e => !seen.contains e.born) = #[]
  · left
    refine ⟨hem, ?_⟩
    simp only [Instr.next, Sem.run_bind, getIter_run hb, Result.andThen_ok, getObj_run hg, hst, hold, hnew, hem]
    simp [-bind_pure_comp, choose, Sem.run, Question.forced]
  · right
    obtain ⟨L, hL⟩ : ∃ L, (es.filter fun e => !seen.contains e.born) = L := ⟨_, rfl⟩
    rw [hL] at hem hold hnew
    have hsz : 0 < L.size := by
      rcases Nat.eq_zero_or_pos L.size with h0 | h0
      · exact (hem (Array.eq_empty_of_size_eq_zero h0)).elim
      · exact h0
    obtain ⟨j, w1, hj, hch, e1, e2, e3, e4, e5⟩ := choose_run (P := P) hsz w
    have hmem : L[j] ∈ es.filter fun e => !seen.contains e.born := by rw [hL]; exact Array.getElem_mem hj
    have hb1 : w1.heap[b]? = some (.mapIter (some g) c seen c) := by rw [e1]; exact hb
    refine ⟨L[j], w1.putObj b (.mapIter (some g) c (seen.push L[j].born) c), Array.mem_of_mem_filter hmem, ?_, ?_, by simp [World.putObj, e1], e2, e3, e4, e5⟩
    · have := (Array.mem_filter.1 hmem).2
      simpa using this
    · have hie : L.isEmpty = false := by simpa [Array.isEmpty] using fun h0 => hem (Array.eq_empty_of_size_eq_zero h0)
      have hcand : ((if (false : Bool) = true then #[none] else #[]) ++ Array.map some (L ++ #[]) : Array (Option MapEntry)) = L.map some := by simp
      have hsize : (L.map some).size = L.size := by simp
      have hget : (L.map some)[j]? = some (some L[j]) := by simp [hj]
      simp only [Instr.next, Sem.run_bind, getIter_run hb, Result.andThen_ok, getObj_run hg, hst, hL, hold, hnew, hie, if_false, hcand, hsize, hch, hget]
      rw [if_neg (by simp)]
      simp only [Sem.run_bind, hch, Result.andThen_ok, hget]
      simp [-bind_pure_comp, setIter_run _ hb1]

theorem entry_run {b g c s : Nat} {seen : Array Nat} {es : Array MapEntry} {e : MapEntry} (hb : w.heap[b]? = some (.mapIter (some g) c (seen.push s) c)) (hg : w.heap[g]? = some (.map es c)) (he : es.find? (fun x => x.born == s) = some e) :
    (Instr.entry (.pointer (some ⟨b, 0, none⟩))).run P w = .ok (.tuple #[e.key, e.val]) w := by
  simp [-bind_pure_comp, Instr.entry, getIter_run hb, getObj_run hg, he]

end Go.AM
