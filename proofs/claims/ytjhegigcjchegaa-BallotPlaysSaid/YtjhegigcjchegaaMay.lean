/-
  Contracts of ballot.May and of the reference's May and Next.
-/
import Derived.Test.YtjhegigcjchegaaMost
import Derived.Test.YtjhegigcjchegaaCount
namespace Go.Proofs.Ytjhegigcjchegaa.bal
open Go.ChangeShapes Go.WideShapes Go.ChangeAt Go.RowKit
open Go.Proofs.Ytjhegigcjchegaa.kit
set_option linter.unusedVariables false
set_option linter.unusedSimpArgs false
set_option maxHeartbeats 1000000

def mayB (r n k : Int) : Bool := knownB k && decide (1 ≤ r) && decide (1 ≤ n) && decide (n ≤ k)

theorem may_any (r n k : Int) (w : World) :
    Calls Try.prog 22 #[.agg #[.int .i64 r, .int .i64 n], .int .i64 k] w
      fun e w' => e = .returned (.bool (mayB r n k)) ∧ Below w.heap.size w w' := by
  obtain ⟨x, hx⟩ : ∃ x, mayB r n k = x := ⟨_, rfl⟩
  have HX := Lib.hid hx
  rw [hx]
  unfold mayB at hx
  cases h1 : knownB k <;> cases h2 : decide (1 ≤ r) <;> cases h3 : decide (1 ≤ n) <;> cases h4 : decide (n ≤ k) <;> simp only [h1, h2, h3, h4, Bool.true_and, Bool.false_and, Bool.and_true, Bool.and_false] at hx <;> subst hx
  all_goals
    go_enter Try.func22, Try.ntmps22
    go_wp2_with (go_at_call 26; refine (known_any _ _).mono ?_; rintro e w' ⟨rfl, rfl⟩)
    go_ret
    exact ⟨rfl, below_new1 _ _⟩

theorem refMay_any (r n k : Int) (w : World) :
    Calls Try.prog 23 #[.agg #[.int .i64 r, .int .i64 n], .int .i64 k] w
      fun e w' => e = .returned (.bool (mayB r n k)) ∧ Below w.heap.size w w' := by
  obtain ⟨x, hx⟩ : ∃ x, mayB r n k = x := ⟨_, rfl⟩
  have HX := Lib.hid hx
  rw [hx]
  unfold mayB at hx
  cases h1 : knownB k <;> cases h2 : decide (1 ≤ r) <;> cases h3 : decide (1 ≤ n) <;> cases h4 : decide (n ≤ k) <;> simp only [h1, h2, h3, h4, Bool.true_and, Bool.false_and, Bool.and_true, Bool.and_false] at hx <;> subst hx
  all_goals
    go_enter Try.func23, Try.ntmps23
    go_wp2_with (go_at_call 27; refine (nodes_any _ _).mono ?_; rintro e w' ⟨rfl, rfl⟩)
    go_ret
    exact ⟨rfl, below_new1 _ _⟩

theorem refNext_any (r k n : Int) (hr : (Lit.int .i64 r).wf = true) (w : World) :
    Calls Try.prog 21 #[.agg #[.int .i64 r, .int .i64 k], .int .i64 n] w
      fun e w' => e = .returned (.tuple #[.agg #[.int .i64 (nextB r n).1, .int .i64 (nextB r n).2.1], .int .i64 (nextB r n).2.2]) ∧ Below w.heap.size w w' := by
  obtain ⟨hb1, hb2⟩ : -9223372036854775808 ≤ r ∧ r ≤ 9223372036854775807 := by simpa [Lit.wf, IntKind.min, IntKind.max, IntKind.signed, IntKind.bits] using hr
  clear hr
  by_cases h1 : n < 1 ∨ 5 < n
  · have HN := Lib.hid (nextB_bad (r := r) h1)
    have hk : knownB n = false := by simp [knownB]; omega
    clear h1
    go_enter Try.func21, Try.ntmps21
    go_wp2_with (go_at_call 27; refine (nodes_any _ _).mono ?_; rintro e w' ⟨rfl, rfl⟩)
    rw [HN.out]
    exact bodyPost_ret (v := .tuple #[.agg #[.int .i64 0, .int .i64 0], .int .i64 1]) (by simp [results, Try.results21, go_sem]) rfl ⟨rfl, below_new2 _ _ _⟩
  · have hk : knownB n = true := by simp [knownB]; omega
    by_cases h2 : r = 9223372036854775807
    · have HN := Lib.hid (nextB_over h1 h2)
      have h3 : (r == 9223372036854775807) = true := by simpa using h2
      clear h2 h1
      go_enter Try.func21, Try.ntmps21
      go_wp2_with (go_at_call 27; refine (nodes_any _ _).mono ?_; rintro e w' ⟨rfl, rfl⟩)
      rw [HN.out]
      exact bodyPost_ret (v := .tuple #[.agg #[.int .i64 0, .int .i64 0], .int .i64 10]) (by simp [results, Try.results21, go_sem]) rfl ⟨rfl, below_new2 _ _ _⟩
    · have HN := Lib.hid (nextB_ok h1 h2)
      have h3 : (r == 9223372036854775807) = false := by simpa using h2
      have h4 : r < 9223372036854775807 := by omega
      have h5 : Hid (max (r + 1) 1 = if r + 1 ≤ 1 then 1 else r + 1) := by simp only [Hid]; omega
      clear h2 h1
      by_cases h7 : r + 1 ≤ 1
      all_goals
        go_enter Try.func21, Try.ntmps21
        go_wp2_with (go_at_call 27; refine (nodes_any _ _).mono ?_; rintro e w' ⟨rfl, rfl⟩)
      all_goals
        have h6 := h5.out
        rw [HN.out, h6]
      · rw [if_pos (by omega)]
        exact bodyPost_ret (v := .tuple #[.agg #[.int .i64 1, .int .i64 n], .int .i64 0]) (by simp [results, Try.results21, go_sem]) rfl ⟨rfl, below_new2 _ _ _⟩
      · rw [if_neg (by omega)]
        exact bodyPost_ret (v := .tuple #[.agg #[.int .i64 (r + 1), .int .i64 n], .int .i64 0]) (by simp [results, Try.results21, go_sem]) rfl ⟨rfl, below_new2 _ _ _⟩
end Go.Proofs.Ytjhegigcjchegaa.bal
