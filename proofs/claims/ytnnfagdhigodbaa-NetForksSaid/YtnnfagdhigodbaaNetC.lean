/-
  The cuts of a net: a map whose keys are pairs.
-/
import Derived.Test.YtnnfagdhigodbaaKit
import Derived.Test.YtnnfagdhigodbaaProg
import Derived.Lib.Hide
import Derived.MapKept
namespace Go.Proofs.Ytnnfagdhigodbaa.netc
open Go.ChangeShapes Go.WideShapes Go.ChangeAt Go.RowKit
open Go.Proofs.Ytnnfagdhigodbaa.kit
set_option linter.unusedVariables false
set_option linter.unusedSimpArgs false
set_option maxHeartbeats 1000000
set_option maxRecDepth 100000

abbrev Cuts := List (Int × Int)
def pk (p : Int × Int) : Value := .agg #[.int .i64 p.1, .int .i64 p.2]
def CutAt (w : World) (mb : Nat) (S : Cuts) : Prop :=
  ∃ es clock, w.heap[mb]? = some (.map es clock) ∧ es.toList.map (fun e => e.key) = S.map pk ∧ ∀ e ∈ es.toList, e.val = .int .i64 1
theorem CutAt.lt {w : World} {mb : Nat} {S : Cuts} (h : CutAt w mb S) : mb < w.heap.size := by
  obtain ⟨es, clock, h1, _⟩ := h
  exact (Array.getElem?_eq_some_iff.1 h1).1
theorem CutAt.to {w w' : World} {mb : Nat} {S : Cuts} (h : CutAt w mb S) (hk : w'.heap[mb]? = w.heap[mb]?) : CutAt w' mb S := by
  obtain ⟨es, clock, h1, h2, h3⟩ := h
  exact ⟨es, clock, hk.trans h1, h2, h3⟩
theorem CutAt.below {w w' : World} {mb : Nat} {S : Cuts} (h : CutAt w mb S) (hb : Below w.heap.size w w') : CutAt w' mb S := h.to (hb.block mb h.lt)
theorem cut_made (w : World) : CutAt (w.alloc (.map #[] 0)) w.heap.size [] := ⟨#[], 0, hp_alloc_new w _, rfl, by simp⟩

theorem equal_pair (p q : Int × Int) (w : World) : (Op.equal 69 (pk p) (pk q)).run Try.prog w = .ok (decide (p = q)) w := by
  obtain ⟨a, b⟩ := p
  obtain ⟨c, d⟩ := q
  by_cases h1 : a = c
  · subst h1
    by_cases h2 : b = d
    · subst h2
      simp [pk, Op.equal, Op.maxDepth, go_sem]
    · simp [pk, Op.equal, Op.maxDepth, go_sem, h2]
  · simp [pk, Op.equal, Op.maxDepth, go_sem, h1]
theorem find_run (p : Int × Int) (w : World) : ∀ (es : List MapEntry) (S : Cuts) (i : Nat), es.map (fun e => e.key) = S.map pk →
    ∃ r, (Instr.findAsking 69 (pk p) es i).run Try.prog w = .ok r w ∧ (p ∈ S → ∃ j e, r = some (i + j, e.val) ∧ es[j]? = some e ∧ e.key = pk p) ∧ (p ∉ S → r = none) := by
  intro es
  induction es with
  | nil =>
    intro S i hS
    have : S = [] := by cases S <;> simp_all
    subst this
    exact ⟨none, by simp [Instr.findAsking, Sem.run_pure], by simp, fun _ => rfl⟩
  | cons e es ih =>
    intro S i hS
    cases S with
    | nil => simp at hS
    | cons q S =>
      simp only [List.map_cons, List.cons.injEq] at hS
      obtain ⟨hq, hS⟩ := hS
      by_cases hpq : p = q
      · subst hpq
        exact ⟨some (i, e.val), by simp [Instr.findAsking, Sem.run_bind, hq, equal_pair, Result.andThen, Sem.run_pure], fun _ => ⟨0, e, rfl, rfl, hq⟩, fun h => absurd (List.mem_cons_self) h⟩
      · obtain ⟨r, h1, h2, h3⟩ := ih S (i + 1) hS
        refine ⟨r, by simp [Instr.findAsking, Sem.run_bind, hq, equal_pair, Result.andThen, hpq, h1], fun hm => ?_, fun hm => ?_⟩
        · have hm' : p ∈ S := by simpa [hpq] using hm
          obtain ⟨j, e', e1, e2, e3⟩ := h2 hm'
          exact ⟨j + 1, e', by rw [e1]; simp; omega, by simpa using e2, e3⟩
        · exact h3 (fun h => hm (List.mem_cons_of_mem _ h))
theorem findKey_run (p : Int × Int) (w : World) (es : List MapEntry) (S : Cuts) (hS : es.map (fun e => e.key) = S.map pk) :
    ∃ r, (Instr.findKey 69 (pk p) es).run Try.prog w = .ok r w ∧ (p ∈ S → ∃ j e, r = some (j, e.val) ∧ es[j]? = some e ∧ e.key = pk p) ∧ (p ∉ S → r = none) := by
  cases es with
  | nil =>
    have : S = [] := by cases S <;> simp_all
    subst this
    exact ⟨none, by simp [Instr.findKey, Instr.findNow, run_underlying Try.underlying69, Sem.run_bind, Result.andThen, Sem.run_pure], by simp, fun _ => rfl⟩
  | cons e es =>
    obtain ⟨r, h1, h2, h3⟩ := find_run p w (e :: es) S 0 hS
    refine ⟨r, ?_, by simpa using h2, h3⟩
    simp [Instr.findKey, Instr.findNow, Instr.sameNow, run_underlying Try.underlying69, Sem.run_bind, Result.andThen, h1]
theorem check_run (em : Bool) (p : Int × Int) (w : World) : (Instr.checkKey em 10000 69 (pk p)).run Try.prog w = .ok () w := by
  obtain ⟨a, b⟩ := p
  cases em <;> kernel_rfl
theorem cut_look {w : World} {mb : Nat} {S : Cuts} (h : CutAt w mb S) (p : Int × Int) :
    ∃ v : Value, (Instr.lookup 65 (.map (some mb)) (pk p) true).run Try.prog w = .ok (.tuple #[v, .bool (decide (p ∈ S))]) w := by
  obtain ⟨es, clock, h1, h2, h3⟩ := h
  obtain ⟨r, f1, f2, f3⟩ := findKey_run p w es.toList S h2
  have hz : (zeroValue 3).run Try.prog w = .ok (.int .i64 0) w := by kernel_rfl
  by_cases hp : p ∈ S
  · obtain ⟨j, e, rfl, e2, e3⟩ := f2 hp
    exact ⟨e.val, by simp [Instr.lookup, run_underlying Try.underlying65, MapKept.run_getObj_map h1, Result.andThen, go_sem, hz, check_run, f1, hp]⟩
  · have := f3 hp
    subst this
    exact ⟨.int .i64 0, by simp [Instr.lookup, run_underlying Try.underlying65, MapKept.run_getObj_map h1, Result.andThen, go_sem, hz, check_run, f1, hp]⟩
theorem stays_run (p : Int × Int) (w : World) : (Instr.keyThatStays (pk p) (pk p)).run Try.prog w = .ok (pk p) w := by
  have h : Instr.sameBits 10000 (pk p) (pk p) = true := by
    show Instr.sameBits (9999 + 1) (pk p) (pk p) = true
    simp [Instr.sameBits, pk]
  simp [Instr.keyThatStays, h, Sem.run_pure]
theorem cut_store {w : World} {mb : Nat} {S : Cuts} (h : CutAt w mb S) (p : Int × Int) :
    ∃ w', (Instr.mapUpdate 65 (.map (some mb)) (pk p) (.int .i64 1)).run Try.prog w = .ok () w' ∧ CutAt w' mb (if p ∈ S then S else S ++ [p]) ∧ w.grownBy w' (some mb) := by
  obtain ⟨es, clock, h1, h2, h3⟩ := h
  obtain ⟨r, f1, f2, f3⟩ := findKey_run p w es.toList S h2
  have hz : mb < w.heap.size := (Array.getElem?_eq_some_iff.1 h1).1
  by_cases hp : p ∈ S
  · obtain ⟨j, e, rfl, e2, e3⟩ := f2 hp
    rw [Array.getElem?_toList] at e2
    have hj : j < es.size := (Array.getElem?_eq_some_iff.1 e2).1
    refine ⟨{ w with heap := w.heap.setIfInBounds mb (.map (es.modify j fun e => { e with key := pk p, val := .int .i64 1 }) clock) }, ?_, ?_, ?_⟩
    · simp [Instr.mapUpdate, run_underlying Try.underlying65, MapKept.run_getObj_map h1, MapKept.run_setObj_map _ h1, Result.andThen, go_sem, check_run, f1, e2, e3, stays_run]
    · rw [if_pos hp]
      refine ⟨es.modify j (fun e => { e with key := pk p, val := .int .i64 1 }), clock, Array.getElem?_setIfInBounds_self_of_lt hz, ?_, ?_⟩
      · rw [← h2]
        apply List.ext_getElem?
        intro k
        simp only [List.getElem?_map, Array.getElem?_toList, Array.getElem?_modify]
        by_cases hk : j = k
        · subst hk; simp [e2, e3]
        · simp [hk]
      · intro x hx
        rw [Array.mem_toList_iff, Array.mem_iff_getElem?] at hx
        obtain ⟨k, hk⟩ := hx
        rw [Array.getElem?_modify] at hk
        by_cases hjk : j = k
        · subst hjk; simp [e2] at hk; rw [← hk]
        · simp only [hjk, if_false] at hk
          exact h3 x (by rw [Array.mem_toList_iff, Array.mem_iff_getElem?]; exact ⟨k, hk⟩)
    · exact ⟨rfl, rfl, rfl, by simp, fun k hk hne => by
        have : mb ≠ k := fun e => hne (by rw [e])
        simp [this]⟩
  · have := f3 hp
    subst this
    refine ⟨{ w with heap := w.heap.setIfInBounds mb (.map (es.push { key := pk p, val := .int .i64 1, born := clock }) (clock + 1)) }, ?_, ?_, ?_⟩
    · simp [Instr.mapUpdate, run_underlying Try.underlying65, MapKept.run_getObj_map h1, MapKept.run_setObj_map _ h1, Result.andThen, go_sem, check_run, f1]
    · rw [if_neg hp]
      refine ⟨es.push { key := pk p, val := .int .i64 1, born := clock }, clock + 1, Array.getElem?_setIfInBounds_self_of_lt hz, by simp [h2], ?_⟩
      intro x hx
      simp only [Array.toList_push, List.mem_append, List.mem_singleton] at hx
      rcases hx with hx | rfl
      · exact h3 x hx
      · rfl
    · exact ⟨rfl, rfl, rfl, by simp, fun k hk hne => by
        have : mb ≠ k := fun e => hne (by rw [e])
        simp [this]⟩
end Go.Proofs.Ytnnfagdhigodbaa.netc
