/-
  BallotNext: for every ballot and every two numbers of nodes the law returns true, and each argument reads as it did. No condition.
-/
import Derived.Test.YtjhegigcjchegaaRows
import Derived.Test.YtjhegigcjchegaaBal
namespace Go.Proofs.Ytjhegigcjchegaa.ballotNext
open Go.ChangeShapes Go.WideShapes Go.ChangeAt Go.RowKit Go.Joins
open Go.Proofs.Ytjhegigcjchegaa.kit Go.Proofs.Ytjhegigcjchegaa.bal
set_option linter.unusedVariables false
set_option linter.unusedSimpArgs false

/-- The next ballot by its parts. -/
theorem next_parts (r k n a b c : Int) (hr : (Lit.int .i64 r).wf = true) (h : nextB r n = (a, b, c)) (w : World) :
    Calls Try.prog 11 #[.agg #[.int .i64 r, .int .i64 k], .int .i64 n] w
      fun e w' => e = .returned (.tuple #[.agg #[.int .i64 a, .int .i64 b], .int .i64 c]) ∧ Below w.heap.size w w' := by
  have := next_any r k n hr w
  rw [h] at this
  exact this

theorem walk_bad (r k n o a' b' c' : Int) (hr : (Lit.int .i64 r).wf = true) (w : World) (h1 : nextB r n = (0, 0, 1)) (h2 : nextB r o = (a', b', c')) (hk : n < 1 ∨ 5 < n) :
    Calls Try.prog 4 #[.agg #[.int .i64 r, .int .i64 k], .int .i64 n, .int .i64 o] w fun e w' => e = .returned (.bool true) ∧ Below w.heap.size w w' := by
  have H1 := Lib.hid h1
  have H2 := Lib.hid h2
  have Hr := Lib.hid hr
  clear h1 h2 hr
  have he := fun w => eqBallot w 0 0 0 0
  have hk' : (decide (n < 1) = true) ∨ (decide (n < 1) = false ∧ decide (5 < n) = true) := by simp; omega
  clear hk
  rcases hk' with hk | ⟨hk, hk2⟩
  all_goals
    go_enter Try.func4, Try.ntmps4
    go_wp2_with fail
    refine (next_parts _ _ _ _ _ _ Hr.out H1.out _).mono ?_; rintro e w1 ⟨rfl, hb1⟩
    obtain ⟨hc1, hf1⟩ := bcell hb1
    have hz1 : w.heap.size < w1.heap.size := by have := hb1.size; try simp at this; omega
    go_wp2_with fail
    refine (next_parts _ _ _ _ _ _ Hr.out H2.out _).mono ?_; rintro e w2 ⟨rfl, hb2⟩
    obtain ⟨hc2, hf2⟩ := bcell hb2
    have hz2 : w.heap.size < w2.heap.size ∧ w1.heap.size < w2.heap.size := by have := hb2.size; try simp at this; omega
    go_wp2_with fail
    refine (awake_any _).mono ?_; rintro e w3 ⟨rfl, hb3⟩
    obtain ⟨hc3, hf3⟩ := bcell hb3
    have hz3 : w.heap.size < w3.heap.size ∧ w1.heap.size < w3.heap.size ∧ w2.heap.size < w3.heap.size := by have := hb3.size; try simp at this; omega
    have hB : Below w.heap.size w w3 := (((((Below.refl _ _).alloc (Nat.le_refl _) _).trans (hb1.mono (by simp))).alloc (by omega) _).trans (hb2.mono (by simp; omega))).alloc (by omega) _ |>.trans (hb3.mono (by simp; omega))
    go_wp2_with fail
    go_ret
    exact ⟨rfl, hB⟩

theorem walk_over (r k n o a' b' c' : Int) (hr : (Lit.int .i64 r).wf = true) (w : World) (h1 : nextB r n = (0, 0, 10)) (h2 : nextB r o = (a', b', c')) (hk1 : decide (n < 1) = false) (hk2 : decide (5 < n) = false) (hm : (r == 9223372036854775807) = true) :
    Calls Try.prog 4 #[.agg #[.int .i64 r, .int .i64 k], .int .i64 n, .int .i64 o] w fun e w' => e = .returned (.bool true) ∧ Below w.heap.size w w' := by
    have H1 := Lib.hid h1
    have H2 := Lib.hid h2
    have Hr := Lib.hid hr
    clear h1 h2 hr
    have he := fun w => eqBallot w 0 0 0 0
    go_enter Try.func4, Try.ntmps4
    go_wp2_with fail
    refine (next_parts _ _ _ _ _ _ Hr.out H1.out _).mono ?_; rintro e w1 ⟨rfl, hb1⟩
    obtain ⟨hc1, hf1⟩ := bcell hb1
    have hz1 : w.heap.size < w1.heap.size := by have := hb1.size; try simp at this; omega
    go_wp2_with fail
    refine (next_parts _ _ _ _ _ _ Hr.out H2.out _).mono ?_; rintro e w2 ⟨rfl, hb2⟩
    obtain ⟨hc2, hf2⟩ := bcell hb2
    have hz2 : w.heap.size < w2.heap.size ∧ w1.heap.size < w2.heap.size := by have := hb2.size; try simp at this; omega
    go_wp2_with fail
    refine (awake_any _).mono ?_; rintro e w3 ⟨rfl, hb3⟩
    obtain ⟨hc3, hf3⟩ := bcell hb3
    have hz3 : w.heap.size < w3.heap.size ∧ w1.heap.size < w3.heap.size ∧ w2.heap.size < w3.heap.size := by have := hb3.size; try simp at this; omega
    have hB : Below w.heap.size w w3 := (((((Below.refl _ _).alloc (Nat.le_refl _) _).trans (hb1.mono (by simp))).alloc (by omega) _).trans (hb2.mono (by simp; omega))).alloc (by omega) _ |>.trans (hb3.mono (by simp; omega))
    go_wp2_with fail
    go_ret
    exact ⟨rfl, hB⟩

theorem walk_ok (r k n o m a' b' c' : Int) (hr : (Lit.int .i64 r).wf = true) (w : World) (h1 : nextB r n = (m, n, 0)) (h2 : nextB r o = (a', b', c')) (hm : decide (m < 1) = false) (hl : lessB r k m n = true)
    (hc : (c' == 0) = false ∨ ((c' == 0) = true ∧ (m == a' && n == b') = false) ∨ ((c' == 0) = true ∧ (m == a' && n == b') = true ∧ (n != o) = false))
    (hx : (m == 1) = true ∨ ((m == 1) = false ∧ 1 ≤ m ∧ m ≤ 9223372036854775807 ∧ (m - 1 == r) = true)) :
    Calls Try.prog 4 #[.agg #[.int .i64 r, .int .i64 k], .int .i64 n, .int .i64 o] w fun e w' => e = .returned (.bool true) ∧ Below w.heap.size w w' := by
  have H1 := Lib.hid h1
  have H2 := Lib.hid h2
  have Hr := Lib.hid hr
  clear h1 h2 hr
  have he := fun w => eqBallot w m n a' b'
  have hnn : (n != n) = false := by simp
  rcases hc with hc1 | ⟨hc1, hc2⟩ | ⟨hc1, hc2, hc3⟩ <;> rcases hx with hx1 | ⟨hx1, hx2, hx3, hx4⟩
  all_goals
    go_enter Try.func4, Try.ntmps4
    go_wp2_with fail
    refine (next_parts _ _ _ _ _ _ Hr.out H1.out _).mono ?_; rintro e w1 ⟨rfl, hb1⟩
    obtain ⟨hc1, hf1⟩ := bcell hb1
    have hz1 : w.heap.size < w1.heap.size := by have := hb1.size; try simp at this; omega
    go_wp2_with fail
    refine (next_parts _ _ _ _ _ _ Hr.out H2.out _).mono ?_; rintro e w2 ⟨rfl, hb2⟩
    obtain ⟨hc2, hf2⟩ := bcell hb2
    have hz2 : w.heap.size < w2.heap.size ∧ w1.heap.size < w2.heap.size := by have := hb2.size; try simp at this; omega
    go_wp2_with fail
    refine (awake_any _).mono ?_; rintro e w3 ⟨rfl, hb3⟩
    obtain ⟨hc3, hf3⟩ := bcell hb3
    have hz3 : w.heap.size < w3.heap.size ∧ w1.heap.size < w3.heap.size ∧ w2.heap.size < w3.heap.size := by have := hb3.size; try simp at this; omega
    have hB : Below w.heap.size w w3 := (((((Below.refl _ _).alloc (Nat.le_refl _) _).trans (hb1.mono (by simp))).alloc (by omega) _).trans (hb2.mono (by simp; omega))).alloc (by omega) _ |>.trans (hb3.mono (by simp; omega))
    go_wp2_with fail
    refine (less_any _ _ _ _ _).mono ?_; rintro e w4 ⟨rfl, hb4⟩
    obtain ⟨hc4, hf4⟩ := bcell hb4
    have hz4 : w.heap.size < w4.heap.size ∧ w1.heap.size < w4.heap.size ∧ w2.heap.size < w4.heap.size := by have := hb4.size; omega
    have hB' : Below w.heap.size w w4 := hB.trans (hb4.mono (by omega))
    go_wp2_with fail
    go_ret
    exact ⟨rfl, hB'⟩

theorem nextB_cases (r n : Int) : (nextB r n = (0, 0, 1) ∧ (n < 1 ∨ 5 < n)) ∨ (nextB r n = (0, 0, 10) ∧ ¬ (n < 1 ∨ 5 < n) ∧ r = 9223372036854775807) ∨ (nextB r n = (max (r + 1) 1, n, 0) ∧ ¬ (n < 1 ∨ 5 < n) ∧ r ≠ 9223372036854775807) := by
  by_cases h : n < 1 ∨ 5 < n
  · exact .inl ⟨nextB_bad h, h⟩
  · by_cases h2 : r = 9223372036854775807
    · exact .inr (.inl ⟨nextB_over h h2, h, h2⟩)
    · exact .inr (.inr ⟨nextB_ok h h2, h, h2⟩)

theorem walk_any (r k n o : Int) (hr : (Lit.int .i64 r).wf = true) (w : World) :
    Calls Try.prog 4 #[.agg #[.int .i64 r, .int .i64 k], .int .i64 n, .int .i64 o] w fun e w' => e = .returned (.bool true) ∧ Below w.heap.size w w' := by
  have hb : -9223372036854775808 ≤ r ∧ r ≤ 9223372036854775807 := by simpa [Lit.wf, IntKind.min, IntKind.max, IntKind.signed, IntKind.bits] using hr
  obtain ⟨a', b', c', g⟩ : ∃ a b c, nextB r o = (a, b, c) := ⟨_, _, _, rfl⟩
  rcases nextB_cases r n with ⟨h1, h2⟩ | ⟨h1, h2, h3⟩ | ⟨h1, h2, h3⟩
  · exact walk_bad r k n o _ _ _ hr w h1 g h2
  · exact walk_over r k n o _ _ _ hr w h1 g (by simp; omega) (by simp; omega) (by simpa using h3)
  · refine walk_ok r k n o _ _ _ _ hr w h1 g (by simp; omega) ?_ ?_ ?_
    · simp only [lessB, Bool.or_eq_true, Bool.and_eq_true, decide_eq_true_eq]
      omega
    · rcases nextB_cases r o with ⟨g1, g2⟩ | ⟨g1, g2, g3⟩ | ⟨g1, g2, g3⟩
      · left; rw [g] at g1; cases g1; rfl
      · left; rw [g] at g1; cases g1; rfl
      · right
        rw [g] at g1
        cases g1
        by_cases hno : n = o
        · right; simp [hno]
        · left; simp [hno]
    · by_cases hm : max (r + 1) 1 = 1
      · left; simp [hm]
      · right
        have e : max (r + 1) 1 = r + 1 := by omega
        rw [e]
        refine ⟨by simp; omega, by omega, by omega, by simp⟩

theorem lawWalk {H : Type} (enc : TypeId × Value → H) : LawWalk enc Try.prog 4 Try.f4 fun _ => True := by
  intro W base args ds p hval hA hsz _
  have hA : DataW.TrodAll enc Try.prog W 0 (fun _ => true) true Try.f4.params.toList args.toList ds p := hA
  rw [Try.params4] at hA hval
  obtain ⟨v0, vs0, d0, ds0, p0, q0, hargs, rfl, rfl, h0, r0⟩ := trodAll_cons hA
  obtain ⟨v1, vs1, d1, ds1, p1, q1, rfl, rfl, rfl, h1, r1⟩ := trodAll_cons r0
  obtain ⟨v2, vs2, d2, ds2, p2, q2, rfl, rfl, rfl, h2, r2⟩ := trodAll_cons r1
  obtain ⟨rfl, rfl, rfl⟩ := trodAll_nil r2
  obtain rfl : args = #[v0, v1, v2] := by cases args; simp_all
  obtain ⟨a, b, rfl, wa, wb⟩ := open_pair Try.underlying23 (by kernel_rfl) (by kernel_rfl) Try.underlying3 Try.underlying3 (hval 0 23 v0 rfl rfl) h0
  obtain ⟨n, rfl, rfl, rfl, w1⟩ := open_int Try.underlying3 (hval 1 3 v1 rfl rfl) h1
  obtain ⟨o, rfl, rfl, rfl, w2⟩ := open_int Try.underlying3 (hval 2 3 v2 rfl rfl) h2
  exact walk_any a b n o wa W

theorem own : ownKnob Try.prog.godebug = none := by kernel_rfl
theorem laidOut : laidOutB Try.prog = true := by kernel_rfl

set_option maxRecDepth 100000 in
theorem lifted (os : Os) (started : os.Started) (H : Type) (enc : TypeId × Value → H) :
    ReturnsInHanded {} Try.checked os 4 .any (Rows.ballotNextSpec.pre6 enc Try.prog Try.f4 Rows.ballotNextRow.domain false) (Rows.ballotNextSpec.post enc Try.prog Try.f4 false true false false) := by
  refine returnsInHanded_of_change_sized (C := Try.checked) own started (by kernel_rfl) Try.func4
    (ChangeSpec.witness6 (enc := enc) (C := Try.checked) false ⟨#[], #[.agg #[.int .i64 0, .int .i64 0], .int .i64 0, .int .i64 0], []⟩ 8 (by kernel_rfl) (by kernel_rfl) (by kernel_rfl) (by kernel_rfl)) ?_
  intro W base args ds gs before hval hW hcnd hsz _
  exact law_post (C := Try.checked) laidOut (fun ds h => by match ds, h with | [_, _, _], _ => rfl) 4 rfl Try.underlying4 rfl (by kernel_rfl) hval hW hsz trivial (lawWalk enc)

theorem proved : Rows.BallotNextSaid :=
  OpenClaim.holds_of_wide 4 Try.f4 rfl rfl rfl rfl rfl rfl rfl ⟨rfl, rfl, rfl, rfl, rfl⟩ rfl rfl rfl rfl rfl (by kernel_rfl) Try.func4 (by kernel_rfl)
    (of_decide_eq_true (by kernel_rfl)) (by unfold Func.isWrapper; first | (rw [if_pos (by decide +kernel)]; kernel_rfl) | (rw [if_neg (by decide +kernel)]; exact ⟨rfl, rfl⟩))
    (fun os started H enc _ => lifted os started H enc)
#print axioms proved
end Go.Proofs.Ytjhegigcjchegaa.ballotNext
