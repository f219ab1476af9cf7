/-
  Contracts of the package ballot's functions, and of the statements' awake.
-/
import Derived.Test.YtjhegigcjchegaaProg
import Derived.Test.YtjhegigcjchegaaBalPlain
import Derived.Deep.QuietTactic
import Derived.BigQuiet
import Derived.Lib.Hide
namespace Go.Proofs.Ytjhegigcjchegaa.bal
open Go.ChangeShapes Go.WideShapes Go.ChangeAt Go.RowKit
open Go.Proofs.Ytjhegigcjchegaa.kit
set_option linter.unusedVariables false
set_option linter.unusedSimpArgs false


theorem eqBallot (w : World) (a b c d : Int) : (binOp .eql 23 (.agg #[.int .i64 a, .int .i64 b]) (.agg #[.int .i64 c, .int .i64 d])).run Try.prog w = .ok (.bool (a == c && b == d)) w := by
  cases h : (a == c) <;> cases h2 : (b == d) <;> go_simp

theorem less_any (r1 n1 r2 n2 : Int) (w : World) :
    Calls Try.prog 9 #[.agg #[.int .i64 r1, .int .i64 n1], .agg #[.int .i64 r2, .int .i64 n2]] w
      fun e w' => e = .returned (.bool (lessB r1 n1 r2 n2)) ∧ Below w.heap.size w w' := by
  rcases Int.lt_trichotomy r1 r2 with h | h | h
  · have hL : Hid (lessB r1 n1 r2 n2 = true) := by simp [Hid, lessB, h]
    go_enter Try.func9, Try.ntmps9
    go_wp2
    go_ret
    exact ⟨by rw [hL.out]; rfl, (((Below.refl _ _).alloc (Nat.le_refl _) _).alloc (by simp) _)⟩
  · subst h
    have hL : Hid (lessB r1 n1 r1 n2 = decide (n1 < n2)) := by simp [Hid, lessB]
    go_enter Try.func9, Try.ntmps9
    go_wp2
    go_ret
    exact ⟨by rw [hL.out]; rfl, (((Below.refl _ _).alloc (Nat.le_refl _) _).alloc (by simp) _)⟩
  · have hL : Hid (lessB r1 n1 r2 n2 = false) := by simp [Hid, lessB]; omega
    have h1 : decide (r1 < r2) = false := by simp; omega
    have h2 : (r1 == r2) = false := by simp; omega
    go_enter Try.func9, Try.ntmps9
    go_wp2
    go_ret
    exact ⟨by rw [hL.out]; simp [h1], (((Below.refl _ _).alloc (Nat.le_refl _) _).alloc (by simp) _)⟩

theorem quorum_any (n : Int) (h1 : 1 ≤ n) (h5 : n ≤ 5) (w : World) :
    Calls Try.prog 15 #[.int .i64 n] w fun e w' => e = .returned (.int .i64 (n / 2 + 1)) ∧ w = w' := by
  go_enter Try.func15, Try.ntmps15
  go_wp2
  go_ret
  exact ⟨rfl, rfl⟩

theorem awake_any (w : World) :
    Calls Try.prog 10 #[] w fun e w' => e = .returned (.bool true) ∧ Below w.heap.size w w' := by
  have hL : lessB 1 1 1 2 = true := rfl
  go_enter Try.func10, Try.ntmps10
  go_wp2_with (first | (go_at_call 15; refine (quorum_any 5 (by omega) (by omega) _).mono ?_; rintro e w' ⟨rfl, rfl⟩) | (go_at_call 9; refine (less_any _ _ _ _ _).mono ?_; rintro e w' ⟨rfl, hb⟩))
  go_ret
  exact ⟨rfl, hb⟩

def nextB (r n : Int) : Int × Int × Int :=
  if n < 1 ∨ 5 < n then (0, 0, 1) else if r = 9223372036854775807 then (0, 0, 10) else (max (r + 1) 1, n, 0)

def maxInt : Int := 9223372036854775807
theorem nextB_bad {r n : Int} (h : n < 1 ∨ 5 < n) : nextB r n = (0, 0, 1) := by simp [nextB, h]
theorem nextB_over {r n : Int} (h : ¬ (n < 1 ∨ 5 < n)) (hr : r = 9223372036854775807) : nextB r n = (0, 0, 10) := by unfold nextB; rw [if_neg h, if_pos hr]
theorem nextB_ok {r n : Int} (h : ¬ (n < 1 ∨ 5 < n)) (hr : r ≠ 9223372036854775807) : nextB r n = (max (r + 1) 1, n, 0) := by unfold nextB; rw [if_neg h, if_neg hr]

theorem known_any (n : Int) (w : World) :
    Calls Try.prog 26 #[.int .i64 n] w fun e w' => e = .returned (.bool (knownB n)) ∧ w = w' := by
  by_cases h1 : 1 ≤ n
  · have hk : Hid (knownB n = decide (n ≤ 5)) := by simp [Hid, knownB, h1]
    go_enter Try.func26, Try.ntmps26
    go_wp2
    go_ret
    exact ⟨by rw [hk.out]; rfl, rfl⟩
  · have hk : Hid (knownB n = false) := by simp [Hid, knownB, h1]
    have h2 : n < 1 := by omega
    clear h1
    go_enter Try.func26, Try.ntmps26
    go_wp2
    go_ret
    exact ⟨by rw [hk.out]; rfl, rfl⟩

theorem next_any (r k n : Int) (hr : (Lit.int .i64 r).wf = true) (w : World) :
    Calls Try.prog 11 #[.agg #[.int .i64 r, .int .i64 k], .int .i64 n] w
      fun e w' => e = .returned (.tuple #[.agg #[.int .i64 (nextB r n).1, .int .i64 (nextB r n).2.1], .int .i64 (nextB r n).2.2]) ∧ Below w.heap.size w w' := by
  obtain ⟨hb1, hb2⟩ : -9223372036854775808 ≤ r ∧ r ≤ 9223372036854775807 := by simpa [Lit.wf, IntKind.min, IntKind.max, IntKind.signed, IntKind.bits] using hr
  clear hr
  by_cases h1 : n < 1 ∨ 5 < n
  · have HN := Lib.hid (nextB_bad (r := r) h1)
    have hk : knownB n = false := by simp [knownB]; omega
    clear h1
    go_enter Try.func11, Try.ntmps11
    go_wp2_with (go_at_call 26; refine (known_any _ _).mono ?_; rintro e w' ⟨rfl, rfl⟩)
    rw [HN.out]
    exact bodyPost_ret (v := .tuple #[.agg #[.int .i64 0, .int .i64 0], .int .i64 1]) (by simp [results, Try.results11, go_sem]) rfl ⟨rfl, (((Below.refl _ _).alloc (Nat.le_refl _) _).alloc (by simp) _)⟩
  · have hk : knownB n = true := by simp [knownB]; omega
    by_cases h2 : r = 9223372036854775807
    · have HN := Lib.hid (nextB_over h1 h2)
      have h3 : (r == 9223372036854775807) = true := by simpa using h2
      clear h2 h1
      go_enter Try.func11, Try.ntmps11
      go_wp2_with (go_at_call 26; refine (known_any _ _).mono ?_; rintro e w' ⟨rfl, rfl⟩)
      rw [HN.out]
      exact bodyPost_ret (v := .tuple #[.agg #[.int .i64 0, .int .i64 0], .int .i64 10]) (by simp [results, Try.results11, go_sem]) rfl ⟨rfl, (((Below.refl _ _).alloc (Nat.le_refl _) _).alloc (by simp) _)⟩
    · have HN := Lib.hid (nextB_ok h1 h2)
      have h3 : (r == 9223372036854775807) = false := by simpa using h2
      have h4 : r < 9223372036854775807 := by omega
      have h5 : Hid (max (r + 1) 1 = if r + 1 < 1 then 1 else r + 1) := by simp only [Hid]; omega
      clear h2 h1
      go_enter Try.func11, Try.ntmps11
      go_wp2_with (go_at_call 26; refine (known_any _ _).mono ?_; rintro e w' ⟨rfl, rfl⟩)
      all_goals
        have h6 := h5.out
        rw [HN.out, h6]
      · rw [if_pos (by assumption)]
        exact bodyPost_ret (v := .tuple #[.agg #[.int .i64 1, .int .i64 n], .int .i64 0]) (by simp [results, Try.results11, go_sem]) rfl ⟨rfl, (((Below.refl _ _).alloc (Nat.le_refl _) _).alloc (by simp) _)⟩
      · rw [if_neg (by omega)]
        exact bodyPost_ret (v := .tuple #[.agg #[.int .i64 (r + 1), .int .i64 n], .int .i64 0]) (by simp [results, Try.results11, go_sem]) rfl ⟨rfl, (((Below.refl _ _).alloc (Nat.le_refl _) _).alloc (by simp) _)⟩

end Go.Proofs.Ytjhegigcjchegaa.bal
