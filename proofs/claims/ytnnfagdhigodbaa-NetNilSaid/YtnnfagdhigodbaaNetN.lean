/-
  A nil net: what it answers; ranging over what its All tells.
-/
import Derived.Test.YtnnfagdhigodbaaKit
import Derived.Test.YtnnfagdhigodbaaProg
import Derived.Lib.Hide
import Derived.RangeFuncNested
import Derived.RangeFuncBound
import Derived.RangeFuncCalls
import Derived.RangeFuncLeaves
import Derived.RangeFuncFrom
import Derived.Shelf.Abstract
import Derived.Shelf.RegionOpen
import Derived.OwnWalkIn
import Derived.TacticsInMore
import Derived.LoopNIn
import Derived.LoopIn
import Derived.Deep.RegionHeld3
namespace Go.Proofs.Ytnnfagdhigodbaa.netn
open Go.ChangeShapes Go.WideShapes Go.ChangeAt Go.RowKit Go.Shelf
open Go.Proofs.Ytnnfagdhigodbaa.kit
set_option linter.unusedVariables false
set_option linter.unusedSimpArgs false
set_option maxHeartbeats 1000000
set_option maxRecDepth 100000

theorem all_nil (w : World) : Calls Try.prog 26 #[.pointer none] w fun e w' => e = .returned (.func (.func 41) #[] #[.pointer (some ⟨w.heap.size, 0, none⟩)]) ∧ w' = w.alloc (.cells #[.slice none 0 0] 43) := by
  go_enter Try.func26, Try.ntmps26
  go_wp2_with fail
  go_ret
  exact ⟨rfl, rfl⟩
theorem nil_len (w : World) : Calls Try.prog 13 #[.pointer none] w fun e w' => e = .returned (.int .i64 0) ∧ w' = w := by
  go_enter Try.func13, Try.ntmps13
  go_wp2_with fail
  go_ret
  exact ⟨rfl, rfl⟩

attribute [local go_sem] Oper.semAt_some

/-- The iterator of an empty list never calls its yield. -/
theorem it_nil (n : Nat) (B : Nat) (w : World) (hb : w.cell? ⟨B, 0, none⟩ = some (.slice none 0 0)) (hB : B < w.heap.size) :
    SeqStopsK Fence.wide n Try.prog 41 #[.pointer (some ⟨B, 0, none⟩)] (fun x : Empty => #[.int .i64 0, .int .i64 0]) (fun _ _ => True) (fun xs => xs = []) (fun _ => False) 0 w := by
  intro l J Jx W hW hJ hJx hY h0
  have hb1 : W.cell? ⟨B, 0, none⟩ = some (.slice none 0 0) := (hW.cell (p := ⟨B, 0, none⟩) hB).trans hb
  refine callsIn_wide.2 ?_
  simp only [List.append_toArray, List.cons_append, List.nil_append]
  have h : Calls Try.prog 41 #[.func (.yield l) #[] #[], .pointer (some ⟨B, 0, none⟩)] W fun e W' => (∃ v, e = .returned v) ∧ W' = W := by
    clear hY h0 hJ hJx hW hb
    go_enter Try.func41, Try.ntmps41
    go_wp2_with fail
    refine wp_loop_rounds 1 ?_
    rw [rounds_succ]
    go_wp2_with fail
    exact bodyPost_end (v := .tuple #[]) (by simp [results, Try.results41, go_sem]) rfl ⟨⟨_, rfl⟩, rfl⟩
  refine h.mono ?_
  rintro e W' ⟨h1, rfl⟩
  exact ⟨h1, .inl ⟨[], rfl, h0⟩⟩

theorem fn_ne (x : Array Value) (w : World) : (binOp .eql 59 (.func (.func 41) #[] x) .nilFunc).run Try.prog w = .ok (.bool false) w := by kernel_rfl

theorem list_nil (w : World) : Calls Try.prog 20 #[.pointer none] w fun e w' => e = .returned (.tuple #[.slice none 0 0, .bool true]) ∧ Below w.heap.size w w' := by
  refine (callsIn_wide (n := 5)).1 ?_
  refine callsIn_of_wp_marks Try.func20 rfl trivial ?_ rfl
  simp only [Try.ntmps20, List.size_toArray, List.length_cons, List.length_nil, Nat.reduceAdd, Nat.reduceSub, Array.replicate_succ, Array.replicate_zero, List.push_toArray, List.append_toArray, List.nil_append, List.cons_append]
  have hq := fn_ne
  gi_wp2
  refine ⟨trivial, ?_⟩
  refine (callsIn_wide.2 (all_nil _)).mono ?_
  rintro e w' ⟨rfl, rfl⟩
  gi_wp2
  obtain ⟨w4, hw4⟩ : ∃ w4 : World, w4 = ((((w.alloc (.cells #[.slice none 0 0] 43)).alloc (.cells #[.bool false] 4)).alloc (.cells #[.slice none 0 0] 43)).alloc (.cells #[.slice none 0 0] 43)) := ⟨_, rfl⟩
  rw [← hw4]
  have hn3 := new3 w (.cells #[.slice none 0 0] 43) (.cells #[.bool false] 4) (.cells #[.slice none 0 0] 43)
  have hb0 : w4.heap[w.heap.size]? = some (.cells #[.slice none 0 0] 43 (0, 0)) := by rw [hw4]; exact hp_new hn3.1
  have hb1 : w4.heap[w.heap.size + 1]? = some (.cells #[.bool false] 4 (0, 0)) := by rw [hw4]; exact hp_new hn3.2.1
  have hb2 : w4.heap[w.heap.size + 1 + 1]? = some (.cells #[.slice none 0 0] 43 (0, 0)) := by rw [hw4]; exact hp_new hn3.2.2.1
  have hb3 : w4.heap[w.heap.size + 1 + 1 + 1]? = some (.cells #[.slice none 0 0] 43 (0, 0)) := by
    rw [hw4]
    have := hp_alloc_new (((w.alloc (.cells #[.slice none 0 0] 43)).alloc (.cells #[.bool false] 4)).alloc (.cells #[.slice none 0 0] 43)) (.cells #[.slice none 0 0] 43)
    rw [hn3.2.2.2] at this
    exact this
  have hs4 : w4.heap.size = w.heap.size + 1 + 1 + 1 + 1 := by rw [hw4, size_new, hn3.2.2.2]
  have hBw : Below w.heap.size w w4 := by rw [hw4]; exact (below_new3 w _ _ _).alloc (by rw [hn3.2.2.2]; omega) _
  clear hw4 hn3
  refine wpIn_rangeFunc_ownF rfl (by omega) (gf := 41) (lb := #[.pointer (some ⟨w.heap.size + 1 + 1 + 1, 0, none⟩)]) rfl trivial (enters_of Try.func41 (by kernel_rfl) rfl)
    (it_nil 4 (w.heap.size + 1 + 1 + 1) w4 ((blk1 hb3).1) (by omega)) (fun _ _ => trivial) (fun _ _ _ _ _ _ _ _ => trivial) (Below.refl _ _) (fun x => x.elim)
    (fun _ W => Below w4.heap.size w4 W) (fun _ _ _ => False) (ownFrom_below (Nat.le_refl _) (Nat.le_refl _)) (fun _ _ _ _ _ hs _ _ => hs) (Below.refl _ _) (fun x => x.elim) ?assign ?body ?done ?stop
  case assign => intro l x; exact x.elim
  case body => intro l pre x; exact x.elim
  case stop => intro D c pre W hD hSp; exact hSp.elim
  case done =>
    intro D xs W hD _ hI hK
    have hr0 := hp_step hb0 hI
    have hr1 := hp_step hb1 hI
    have hr2 := hp_step hb2 hI
    obtain ⟨c0, f0, z0⟩ := blk1 hr0
    obtain ⟨c1, f1, z1⟩ := blk1 hr1
    obtain ⟨c2, _, _⟩ := blk1 hr2
    have hBW : Below w.heap.size w W := below_step hBw hI
    gi_wp2
    refine Code.wpIn_mono NoPanic.imp ?_
    gi_region_with (first | (refine ⟨trivial, ?_⟩; gi_at_call 13; refine (callsIn_wide.2 (nil_len _)).mono ?_; rintro e w' ⟨rfl, rfl⟩))
    all_goals
      refine NoPanic.normal ?_
      gi_wp2
      obtain ⟨WF, hWF⟩ : ∃ WF : World, WF = ((W.setCell ⟨w.heap.size, 0, none⟩ (.slice none 0 0)).setCell ⟨w.heap.size + 1, 0, none⟩ (.bool true)).drew := ⟨_, rfl⟩
      rw [← hWF]
      have hD0 : D ≠ w.heap.size := by omega
      have hD1 : D ≠ w.heap.size + 1 := by omega
      have hKF : WF.heap[D]? = some (.deferred (some [])) := by
        rw [hWF]
        exact (hp_set_ne hD1).trans ((hp_set_ne hD0).trans hK)
      have hf0 : WF.heap[w.heap.size]? = some (.cells #[.slice none 0 0] 43 (0, 0)) := by
        rw [hWF]
        exact (hp_set_ne (show w.heap.size ≠ w.heap.size + 1 by omega)).trans (hp_set hr0 0 _)
      have hf1 : WF.heap[w.heap.size + 1]? = some (.cells #[.bool true] 4 (0, 0)) := by
        rw [hWF]
        exact hp_set ((hp_set_ne (show w.heap.size + 1 ≠ w.heap.size by omega)).trans hr1) 0 _
      have hBF : Below w.heap.size w WF := by
        rw [hWF]
        exact below_drewN ((hBW.setCell (p := ⟨w.heap.size, 0, none⟩) (Nat.le_refl _) _).setCell (p := ⟨w.heap.size + 1, 0, none⟩) (by simp) _) 1
      refine ⟨by simp, .inl ⟨_, _, rfl, run_takeDeferred hKF, ?_⟩⟩
      have hgr := grownBy_putObj' WF D (.deferred none)
      have k0 := (hgr.block w.heap.size (blk1 hf0).2.2 (fun e => hD0 (Option.some.inj e).symm)).trans hf0
      have k1 := (hgr.block (w.heap.size + 1) (blk1 hf1).2.2 (fun e => hD1 (Option.some.inj e).symm)).trans hf1
      have hBE : Below w.heap.size w (WF.putObj D (.deferred none)) := hBF.grown hgr hBF.size (fun j hj => by simp at hj; omega)
      have e0 := (blk1 k0).1
      have e1 := (blk1 k1).1
      obtain ⟨WE, hWE⟩ : ∃ WE, WE = WF.putObj D (.deferred none) := ⟨_, rfl⟩
      rw [← hWE] at e0 e1 hBE ⊢
      clear hWF hKF hf0 hf1 hgr k0 k1 hWE hK hr0 hr1 hr2 c0 c1 c2 hq hb0 hb1 hb2 hb3
      exact ⟨.tuple #[.slice none 0 0, .bool true], by simp [results, Try.results20, go_sem, e0, e1, Result.andThen], rfl, hBE⟩
end Go.Proofs.Ytnnfagdhigodbaa.netn
