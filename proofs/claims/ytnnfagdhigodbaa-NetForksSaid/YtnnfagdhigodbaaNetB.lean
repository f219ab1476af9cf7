/-
  maps.Clone of a net's cuts.
-/
import Derived.Test.YtnnfagdhigodbaaNetC
import Derived.Test.YtnnfagdhigodbaaNetG
import Derived.Test.YtnnfagdhigodbaaNetL
import Derived.Laws.Externs
import Derived.Shelf.SlMaps.Clone
namespace Go.Proofs.Ytnnfagdhigodbaa.netb
open Go.ChangeShapes Go.WideShapes Go.ChangeAt Go.RowKit Go.Shelf Go.Maps
open Go.Proofs.Ytnnfagdhigodbaa.kit Go.Proofs.Ytnnfagdhigodbaa.netc
set_option linter.unusedVariables false
set_option linter.unusedSimpArgs false
set_option maxHeartbeats 2000000
set_option maxRecDepth 100000

theorem clone_run (w : World) (b : Nat) (es : Array MapEntry) (clock : Nat) (hb : w.heap[b]? = some (.map es clock)) :
    Calls Try.prog 39 #[.map (some b)] w fun e w' => e = .returned (.map (some w.heap.size)) ∧ w' = w.alloc (.map es clock) := by
  have hq := fun w => run_eql_map_nil_sl (P := Try.prog) w 65 _ _ (some b) Try.underlying65
  go_enter Try.func39, Try.ntmps39
  go_wp2_with fail
  rw [run_callFunc_extern Try.func46 (by kernel_rfl) (by kernel_rfl) (by kernel_rfl) (e := Extern.MapsClone.clone) (by kernel_rfl), run_maps_clone_sl w 65 hb]
  simp only [Result.andThen]
  rw [Oper.upon_value]
  go_wp2_with fail
  rw [run_typeAssert_map_sl _ 65 _ _ _ _ Try.underlying65]
  simp only [Result.andThen]
  rw [Oper.upon_value]
  go_wp2_with fail
  go_ret
  exact ⟨rfl, rfl⟩
theorem clone_cut (w : World) (b : Nat) (S : Cuts) (h : CutAt w b S) : Calls Try.prog 39 #[.map (some b)] w fun e w' => e = .returned (.map (some w.heap.size)) ∧ CutAt w' w.heap.size S ∧ Below w.heap.size w w' ∧ w'.heap.size = w.heap.size + 1 := by
  obtain ⟨es, clock, h1, h2, h3⟩ := h
  refine (clone_run w b es clock h1).mono ?_; rintro e w' ⟨rfl, rfl⟩
  exact ⟨rfl, ⟨es, clock, hp_alloc_new _ _, h2, h3⟩, below_new1 _ _, size_new _ _⟩
end Go.Proofs.Ytnnfagdhigodbaa.netb
