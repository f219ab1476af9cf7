/-
  Contracts of the functions of ballot that choose calls (XBal's, for this seat).
-/
import Derived.Test.YtodoncmielfbeaaBalPlain
import Derived.Test.YtodoncmielfbeaaProg
import Derived.Deep.QuietTactic
import Derived.BigQuiet
import Derived.Lib.Hide
namespace Go.Proofs.Ytodoncmielfbeaa.chb
open Go.ChangeShapes Go.WideShapes Go.ChangeAt Go.RowKit
open Go.Proofs.Ytodoncmielfbeaa.kit Go.Proofs.Ytodoncmielfbeaa.bal
set_option linter.unusedVariables false
set_option linter.unusedSimpArgs false

theorem eqBallot (w : World) (a b c d : Int) : (binOp .eql 43 (.agg #[.int .i64 a, .int .i64 b]) (.agg #[.int .i64 c, .int .i64 d])).run Try.prog w = .ok (.bool (a == c && b == d)) w := by
  cases h : (a == c) <;> cases h2 : (b == d) <;> go_simp

theorem less_any (r1 n1 r2 n2 : Int) (w : World) :
    Calls Try.prog 19 #[.agg #[.int .i64 r1, .int .i64 n1], .agg #[.int .i64 r2, .int .i64 n2]] w
      fun e w' => e = .returned (.bool (lessB r1 n1 r2 n2)) ∧ Below w.heap.size w w' := by
  rcases Int.lt_trichotomy r1 r2 with h | h | h
  · have hL : Hid (lessB r1 n1 r2 n2 = true) := by simp [Hid, lessB, h]
    go_enter Try.func19, Try.ntmps19
    go_wp2
    go_ret
    exact ⟨by rw [hL.out]; rfl, (((Below.refl _ _).alloc (Nat.le_refl _) _).alloc (by simp) _)⟩
  · subst h
    have hL : Hid (lessB r1 n1 r1 n2 = decide (n1 < n2)) := by simp [Hid, lessB]
    go_enter Try.func19, Try.ntmps19
    go_wp2
    go_ret
    exact ⟨by rw [hL.out]; rfl, (((Below.refl _ _).alloc (Nat.le_refl _) _).alloc (by simp) _)⟩
  · have hL : Hid (lessB r1 n1 r2 n2 = false) := by simp [Hid, lessB]; omega
    have h1 : decide (r1 < r2) = false := by simp; omega
    have h2 : (r1 == r2) = false := by simp; omega
    go_enter Try.func19, Try.ntmps19
    go_wp2
    go_ret
    exact ⟨by rw [hL.out]; simp [h1], (((Below.refl _ _).alloc (Nat.le_refl _) _).alloc (by simp) _)⟩

theorem quorum_any (n : Int) (h1 : 1 ≤ n) (h5 : n ≤ 5) (w : World) :
    Calls Try.prog 28 #[.int .i64 n] w fun e w' => e = .returned (.int .i64 (n / 2 + 1)) ∧ w = w' := by
  go_enter Try.func28, Try.ntmps28
  go_wp2
  go_ret
  exact ⟨rfl, rfl⟩

theorem known_any (n : Int) (w : World) :
    Calls Try.prog 48 #[.int .i64 n] w fun e w' => e = .returned (.bool (knownB n)) ∧ w = w' := by
  by_cases h1 : 1 ≤ n
  · have hk : Hid (knownB n = decide (n ≤ 5)) := by simp [Hid, knownB, h1]
    go_enter Try.func48, Try.ntmps48
    go_wp2
    go_ret
    exact ⟨by rw [hk.out]; rfl, rfl⟩
  · have hk : Hid (knownB n = false) := by simp [Hid, knownB, h1]
    have h2 : n < 1 := by omega
    clear h1
    go_enter Try.func48, Try.ntmps48
    go_wp2
    go_ret
    exact ⟨by rw [hk.out]; rfl, rfl⟩

set_option maxHeartbeats 1000000

def mayB (r n k : Int) : Bool := knownB k && decide (1 ≤ r) && decide (1 ≤ n) && decide (n ≤ k)
theorem may_any (r n k : Int) (w : World) :
    Calls Try.prog 39 #[.agg #[.int .i64 r, .int .i64 n], .int .i64 k] w
      fun e w' => e = .returned (.bool (mayB r n k)) ∧ Below w.heap.size w w' := by
  obtain ⟨x, hx⟩ : ∃ x, mayB r n k = x := ⟨_, rfl⟩
  have HX := Lib.hid hx
  rw [hx]
  unfold mayB at hx
  cases h1 : knownB k <;> cases h2 : decide (1 ≤ r) <;> cases h3 : decide (1 ≤ n) <;> cases h4 : decide (n ≤ k) <;> simp only [h1, h2, h3, h4, Bool.true_and, Bool.false_and, Bool.and_true, Bool.and_false] at hx <;> subst hx
  all_goals
    go_enter Try.func39, Try.ntmps39
    go_wp2_with (go_at_call 48; refine (known_any _ _).mono ?_; rintro e w' ⟨rfl, rfl⟩)
    go_ret
    exact ⟨rfl, below_new1 _ _⟩

theorem nodes_any (n : Int) (w : World) :
    Calls Try.prog 40 #[.int .i64 n] w fun e w' => e = .returned (.bool (knownB n)) ∧ w = w' := by
  by_cases h1 : 1 ≤ n
  · have hk : Hid (knownB n = decide (n ≤ 5)) := by simp [Hid, knownB, h1]
    go_enter Try.func40, Try.ntmps40
    go_wp2
    go_ret
    exact ⟨by rw [hk.out]; rfl, rfl⟩
  · have hk : Hid (knownB n = false) := by simp [Hid, knownB, h1]
    have h2 : n < 1 := by omega
    clear h1
    go_enter Try.func40, Try.ntmps40
    go_wp2
    go_ret
    exact ⟨by rw [hk.out]; rfl, rfl⟩

theorem refMay_any (r n k : Int) (w : World) :
    Calls Try.prog 41 #[.agg #[.int .i64 r, .int .i64 n], .int .i64 k] w
      fun e w' => e = .returned (.bool (mayB r n k)) ∧ Below w.heap.size w w' := by
  obtain ⟨x, hx⟩ : ∃ x, mayB r n k = x := ⟨_, rfl⟩
  have HX := Lib.hid hx
  rw [hx]
  unfold mayB at hx
  cases h1 : knownB k <;> cases h2 : decide (1 ≤ r) <;> cases h3 : decide (1 ≤ n) <;> cases h4 : decide (n ≤ k) <;> simp only [h1, h2, h3, h4, Bool.true_and, Bool.false_and, Bool.and_true, Bool.and_false] at hx <;> subst hx
  all_goals
    go_enter Try.func41, Try.ntmps41
    go_wp2_with (go_at_call 40; refine (nodes_any _ _).mono ?_; rintro e w' ⟨rfl, rfl⟩)
    go_ret
    exact ⟨rfl, below_new1 _ _⟩

theorem refLess_any (r1 n1 r2 n2 : Int) (w : World) :
    Calls Try.prog 34 #[.agg #[.int .i64 r1, .int .i64 n1], .agg #[.int .i64 r2, .int .i64 n2]] w
      fun e w' => e = .returned (.bool (lessB r1 n1 r2 n2)) ∧ Below w.heap.size w w' := by
  by_cases h : r1 = r2
  · subst h
    have hL : Hid (lessB r1 n1 r1 n2 = decide (n1 < n2)) := by simp [Hid, lessB]
    go_enter Try.func34, Try.ntmps34
    go_wp2
    go_ret
    exact ⟨by rw [hL.out]; rfl, (((Below.refl _ _).alloc (Nat.le_refl _) _).alloc (by simp) _)⟩
  · have hL : Hid (lessB r1 n1 r2 n2 = decide (r1 < r2)) := by simp [Hid, lessB, h]
    have h2 : (r1 != r2) = true := by simpa using h
    go_enter Try.func34, Try.ntmps34
    go_wp2
    go_ret
    exact ⟨by rw [hL.out]; rfl, (((Below.refl _ _).alloc (Nat.le_refl _) _).alloc (by simp) _)⟩
end Go.Proofs.Ytodoncmielfbeaa.chb
