/-
  A nil log of ints: what it answers; ranging over what it tells.
-/
import Derived.Test.YtpnkohjppbgiaaaKit
import Derived.Test.YtpnkohjppbgiaaaProg
import Derived.Lib.Hide
import Derived.RangeFuncNested
import Derived.RangeFuncBound
import Derived.RangeFuncCalls
import Derived.RangeFuncLeaves
import Derived.RangeFuncFrom
import Derived.Shelf.Abstract
import Derived.Shelf.RegionOpen
import Derived.OwnWalkIn
import Derived.TacticsInMore
import Derived.LoopNIn
import Derived.LoopIn
import Derived.Deep.RegionHeld3
namespace Go.Proofs.Ytpnkohjppbgiaaa.slotn
open Go.ChangeShapes Go.WideShapes Go.ChangeAt Go.RowKit Go.Shelf
open Go.Proofs.Ytpnkohjppbgiaaa.kit
set_option linter.unusedVariables false
set_option linter.unusedSimpArgs false
set_option maxHeartbeats 1000000
set_option maxRecDepth 100000


theorem now_nil (w : World) : Calls Try.prog 56 #[.pointer none] w fun e w' => e = .returned (.tuple #[.int .i64 0, .slice none 0 0]) ∧ w = w' := by
  go_enter Try.func56, Try.ntmps56
  go_wp2_with fail
  exact bodyPost_ret (v := .tuple #[.int .i64 0, .slice none 0 0]) (by simp [results, Try.results56, go_sem]) rfl ⟨rfl, rfl⟩

theorem all_nil (w : World) : Calls Try.prog 33 #[.pointer none] w fun e w' => ∃ B B', e = .returned (.func (.func 57) #[] #[.pointer (some ⟨B, 0, none⟩), .pointer (some ⟨B', 0, none⟩)]) ∧ w'.cell? ⟨B, 0, none⟩ = some (.slice none 0 0) ∧ B < w'.heap.size ∧ Below w.heap.size w w' := by
  go_enter Try.func33, Try.ntmps33
  go_wp2_with fail
  refine (now_nil w).mono ?_; rintro e w1 ⟨rfl, rfl⟩
  go_wp2_with fail
  have hn := new2 w (.cells #[.int .i64 0] 3) (.cells #[.slice none 0 0] 73)
  exact bodyPost_ret (v := .func (.func 57) #[] #[.pointer (some ⟨w.heap.size + 1, 0, none⟩), .pointer (some ⟨w.heap.size, 0, none⟩)]) (by simp [results, Try.results33, go_sem]) rfl ⟨_, _, rfl, (blk1 hn.2.1).1, (blk1 hn.2.1).2.2, below_new2 _ _ _⟩

theorem all_it (n : Nat) (B : Nat) (y : Value) (enc : Empty → Array Value) (w : World) (hb : w.cell? ⟨B, 0, none⟩ = some (.slice none 0 0)) (hB : B < w.heap.size) :
    SeqStopsK Fence.wide n Try.prog 57 #[.pointer (some ⟨B, 0, none⟩), y] enc (fun _ _ => True) (fun xs => xs = []) (fun _ => False) 0 w := by
  intro l J Jx W hW hJ hJx hY h0
  have hb1 : W.cell? ⟨B, 0, none⟩ = some (.slice none 0 0) := (hW.cell (p := ⟨B, 0, none⟩) hB).trans hb
  refine callsIn_wide.2 ?_
  simp only [List.append_toArray, List.cons_append, List.nil_append]
  have h : Calls Try.prog 57 #[.func (.yield l) #[] #[], .pointer (some ⟨B, 0, none⟩), y] W fun e W' => (∃ v, e = .returned v) ∧ W' = W := by
    clear hY h0 hJ hJx hW hb
    go_enter Try.func57, Try.ntmps57
    go_wp2_with fail
    refine wp_loop_rounds 1 ?_
    rw [rounds_succ]
    go_wp2_with fail
    exact bodyPost_end (v := .tuple #[]) (by simp [results, Try.results57, go_sem]) rfl ⟨⟨_, rfl⟩, rfl⟩
  refine h.mono ?_
  rintro e W' ⟨h1, rfl⟩
  exact ⟨h1, .inl ⟨[], rfl, h0⟩⟩

theorem run_nil (w : World) : Calls Try.prog 59 #[.pointer none] w fun e w' => ∃ B B', e = .returned (.func (.func 71) #[] #[.pointer (some ⟨B, 0, none⟩), .pointer (some ⟨B', 0, none⟩)]) ∧ w'.cell? ⟨B, 0, none⟩ = some (.slice none 0 0) ∧ B < w'.heap.size ∧ Below w.heap.size w w' := by
  go_enter Try.func59, Try.ntmps59
  go_wp2_with fail
  refine (now_nil w).mono ?_; rintro e w1 ⟨rfl, rfl⟩
  go_wp2_with fail
  have hn := new2 w (.cells #[.int .i64 0] 3) (.cells #[.slice none 0 0] 73)
  exact bodyPost_ret (v := .func (.func 71) #[] #[.pointer (some ⟨w.heap.size + 1, 0, none⟩), .pointer (some ⟨w.heap.size, 0, none⟩)]) (by simp [results, Try.results59, go_sem]) rfl ⟨_, _, rfl, (blk1 hn.2.1).1, (blk1 hn.2.1).2.2, below_new2 _ _ _⟩

theorem run_it (n : Nat) (B : Nat) (y : Value) (enc : Empty → Array Value) (w : World) (hb : w.cell? ⟨B, 0, none⟩ = some (.slice none 0 0)) (hB : B < w.heap.size) :
    SeqStopsK Fence.wide n Try.prog 71 #[.pointer (some ⟨B, 0, none⟩), y] enc (fun _ _ => True) (fun xs => xs = []) (fun _ => False) 0 w := by
  intro l J Jx W hW hJ hJx hY h0
  have hb1 : W.cell? ⟨B, 0, none⟩ = some (.slice none 0 0) := (hW.cell (p := ⟨B, 0, none⟩) hB).trans hb
  refine callsIn_wide.2 ?_
  simp only [List.append_toArray, List.cons_append, List.nil_append]
  have h : Calls Try.prog 71 #[.func (.yield l) #[] #[], .pointer (some ⟨B, 0, none⟩), y] W fun e W' => (∃ v, e = .returned v) ∧ W' = W := by
    clear hY h0 hJ hJx hW hb
    go_enter Try.func71, Try.ntmps71
    go_wp2_with fail
    refine wp_loop_rounds 1 ?_
    rw [rounds_succ]
    go_wp2_with fail
    exact bodyPost_end (v := .tuple #[]) (by simp [results, Try.results71, go_sem]) rfl ⟨⟨_, rfl⟩, rfl⟩
  refine h.mono ?_
  rintro e W' ⟨h1, rfl⟩
  exact ⟨h1, .inl ⟨[], rfl, h0⟩⟩

theorem holes_nil (w : World) : Calls Try.prog 34 #[.pointer none] w fun e w' => ∃ B B', e = .returned (.func (.func 58) #[] #[.pointer (some ⟨B, 0, none⟩), .pointer (some ⟨B', 0, none⟩)]) ∧ w'.cell? ⟨B, 0, none⟩ = some (.slice none 0 0) ∧ B < w'.heap.size ∧ Below w.heap.size w w' := by
  go_enter Try.func34, Try.ntmps34
  go_wp2_with fail
  refine (now_nil w).mono ?_; rintro e w1 ⟨rfl, rfl⟩
  go_wp2_with fail
  have hn := new2 w (.cells #[.int .i64 0] 3) (.cells #[.slice none 0 0] 73)
  exact bodyPost_ret (v := .func (.func 58) #[] #[.pointer (some ⟨w.heap.size + 1, 0, none⟩), .pointer (some ⟨w.heap.size, 0, none⟩)]) (by simp [results, Try.results34, go_sem]) rfl ⟨_, _, rfl, (blk1 hn.2.1).1, (blk1 hn.2.1).2.2, below_new2 _ _ _⟩

theorem holes_it (n : Nat) (B : Nat) (y : Value) (enc : Empty → Array Value) (w : World) (hb : w.cell? ⟨B, 0, none⟩ = some (.slice none 0 0)) (hB : B < w.heap.size) :
    SeqStopsK Fence.wide n Try.prog 58 #[.pointer (some ⟨B, 0, none⟩), y] enc (fun _ _ => True) (fun xs => xs = []) (fun _ => False) 0 w := by
  intro l J Jx W hW hJ hJx hY h0
  have hb1 : W.cell? ⟨B, 0, none⟩ = some (.slice none 0 0) := (hW.cell (p := ⟨B, 0, none⟩) hB).trans hb
  refine callsIn_wide.2 ?_
  simp only [List.append_toArray, List.cons_append, List.nil_append]
  have h : Calls Try.prog 58 #[.func (.yield l) #[] #[], .pointer (some ⟨B, 0, none⟩), y] W fun e W' => (∃ v, e = .returned v) ∧ W' = W := by
    clear hY h0 hJ hJx hW hb
    go_enter Try.func58, Try.ntmps58
    go_wp2_with fail
    refine wp_loop_rounds 1 ?_
    rw [rounds_succ]
    go_wp2_with fail
    exact bodyPost_end (v := .tuple #[]) (by simp [results, Try.results58, go_sem]) rfl ⟨⟨_, rfl⟩, rfl⟩
  refine h.mono ?_
  rintro e W' ⟨h1, rfl⟩
  exact ⟨h1, .inl ⟨[], rfl, h0⟩⟩

theorem nil_first (w : World) : Calls Try.prog 11 #[.pointer none] w fun e w' => e = .returned (.int .i64 0) ∧ w = w' := by
  go_enter Try.func11, Try.ntmps11
  go_wp2_with fail
  go_ret
  exact ⟨rfl, rfl⟩
theorem nil_next (w : World) : Calls Try.prog 16 #[.pointer none] w fun e w' => e = .returned (.int .i64 0) ∧ w = w' := by
  go_enter Try.func16, Try.ntmps16
  go_wp2_with fail
  go_ret
  exact ⟨rfl, rfl⟩
theorem nil_top (w : World) : Calls Try.prog 45 #[.pointer none] w fun e w' => e = .returned (.int .i64 0) ∧ w = w' := by
  go_enter Try.func45, Try.ntmps45
  go_wp2_with fail
  go_ret
  exact ⟨rfl, rfl⟩
theorem nil_put (i v : Int) (w : World) : Calls Try.prog 14 #[.pointer none, .int .i64 i, .int .i64 v] w fun e w' => e = .returned (.int .i64 2) ∧ w = w' := by
  go_enter Try.func14, Try.ntmps14
  go_wp2_with fail
  go_ret
  exact ⟨rfl, rfl⟩
theorem nil_cut (i : Int) (w : World) : Calls Try.prog 15 #[.pointer none, .int .i64 i] w fun e w' => e = .returned (.int .i64 0) ∧ w = w' := by
  go_enter Try.func15, Try.ntmps15
  go_wp2_with fail
  go_ret
  exact ⟨rfl, rfl⟩
theorem nil_fork (w : World) : Calls Try.prog 46 #[.pointer none] w fun e w' => e = .returned (.pointer none) ∧ w = w' := by
  go_enter Try.func46, Try.ntmps46
  go_wp2_with fail
  go_ret
  exact ⟨rfl, rfl⟩
end Go.Proofs.Ytpnkohjppbgiaaa.slotn
