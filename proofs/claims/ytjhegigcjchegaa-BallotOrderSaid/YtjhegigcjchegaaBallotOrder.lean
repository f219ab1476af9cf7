/-
  BallotOrder: for every three ballots the law returns true, and each argument reads as it did. No condition.
-/
import Derived.Test.YtjhegigcjchegaaRows
import Derived.Test.YtjhegigcjchegaaBal
namespace Go.Proofs.Ytjhegigcjchegaa.ballotOrder
open Go.ChangeShapes Go.WideShapes Go.ChangeAt Go.RowKit Go.Joins
open Go.Proofs.Ytjhegigcjchegaa.kit Go.Proofs.Ytjhegigcjchegaa.bal
set_option linter.unusedVariables false
set_option linter.unusedSimpArgs false

theorem walk_any (r1 n1 r2 n2 r3 n3 : Int) (x y z : Bool) (w : World) (h1 : lessB r1 n1 r2 n2 = x) (h2 : lessB r2 n2 r1 n1 = y) (h4 : (r1 == r2 && n1 == n2) = z)
    (hx : (x = true ∧ y = false ∧ z = false) ∨ (x = false ∧ y = true ∧ z = false) ∨ (x = false ∧ y = false ∧ z = true))
    (h3 : x = true → lessB r2 n2 r3 n3 = true → lessB r1 n1 r3 n3 = true) :
    Calls Try.prog 3 #[.agg #[.int .i64 r1, .int .i64 n1], .agg #[.int .i64 r2, .int .i64 n2], .agg #[.int .i64 r3, .int .i64 n3]] w
      fun e w' => e = .returned (.bool true) ∧ Below w.heap.size w w' := by
  have h5 : (x = true ∧ lessB r2 n2 r3 n3 = true ∧ lessB r1 n1 r3 n3 = true) ∨ (x = true ∧ lessB r2 n2 r3 n3 = false) ∨ x = false := by
    cases x <;> cases h : lessB r2 n2 r3 n3 <;> simp_all
  clear h3
  rcases hx with ⟨rfl, rfl, rfl⟩ | ⟨rfl, rfl, rfl⟩ | ⟨rfl, rfl, rfl⟩ <;> rcases h5 with ⟨h6, h7, h8⟩ | ⟨h6, h7⟩ | h6 <;> (try (exact absurd h6 (by decide))) <;> clear h6
  all_goals
    have he := fun w => eqBallot w r1 n1 r2 n2
    go_enter Try.func3, Try.ntmps3
    go_wp2_with fail
    refine (less_any _ _ _ _ _).mono ?_; rintro e w1 ⟨rfl, hb1⟩
    obtain ⟨hc1, hf1⟩ := bcell hb1
    have hz1 : w.heap.size < w1.heap.size ∧ w.heap.size + 1 < w1.heap.size ∧ w.heap.size + 1 + 1 < w1.heap.size := by have := hb1.size; simp at this; omega
    go_wp2_with fail
    refine (less_any _ _ _ _ _).mono ?_; rintro e w2 ⟨rfl, hb2⟩
    obtain ⟨hc2, hf2⟩ := bcell hb2
    have hz2 : w.heap.size < w2.heap.size ∧ w.heap.size + 1 < w2.heap.size ∧ w.heap.size + 1 + 1 < w2.heap.size := by have := hb2.size; omega
    go_wp2_with fail
    refine (awake_any _).mono ?_; rintro e w3 ⟨rfl, hb3⟩
    obtain ⟨hc3, hf3⟩ := bcell hb3
    have hz3 : w.heap.size < w3.heap.size ∧ w.heap.size + 1 < w3.heap.size ∧ w.heap.size + 1 + 1 < w3.heap.size := by have := hb3.size; omega
    go_wp2_with fail
    refine (less_any _ _ _ _ _).mono ?_; rintro e w4 ⟨rfl, hb4⟩
    obtain ⟨hc4, hf4⟩ := bcell hb4
    have hz4 : w.heap.size < w4.heap.size ∧ w.heap.size + 1 < w4.heap.size ∧ w.heap.size + 1 + 1 < w4.heap.size := by have := hb4.size; omega
    have hB : Below w.heap.size w w4 := ((((((Below.refl _ _).alloc (Nat.le_refl _) _).alloc (by simp) _).alloc (by simp; omega) _).trans (hb1.mono (by simp; omega))).trans (hb2.mono (by omega))).trans ((hb3.mono (by omega)).trans (hb4.mono (by omega)))
    go_wp2_with fail
  · refine (less_any _ _ _ _ _).mono ?_; rintro e w5 ⟨rfl, hb5⟩
    obtain ⟨hc5, hf5⟩ := bcell hb5
    have hz5 : w.heap.size < w5.heap.size ∧ w.heap.size + 1 < w5.heap.size ∧ w.heap.size + 1 + 1 < w5.heap.size := by have := hb5.size; omega
    go_wp2_with fail
    refine (less_any _ _ _ _ _).mono ?_; rintro e w6 ⟨rfl, hb6⟩
    go_wp2_with fail
    go_ret
    exact ⟨rfl, (hB.trans (hb5.mono (by omega))).trans (hb6.mono (by omega))⟩
  · refine (less_any _ _ _ _ _).mono ?_; rintro e w5 ⟨rfl, hb5⟩
    go_wp2_with fail
    go_ret
    exact ⟨rfl, hB.trans (hb5.mono (by omega))⟩
  all_goals
    go_ret
    exact ⟨rfl, hB⟩

theorem less_total (r1 n1 r2 n2 : Int) : (lessB r1 n1 r2 n2 = true ∧ lessB r2 n2 r1 n1 = false ∧ (r1 == r2 && n1 == n2) = false) ∨ (lessB r1 n1 r2 n2 = false ∧ lessB r2 n2 r1 n1 = true ∧ (r1 == r2 && n1 == n2) = false) ∨ (lessB r1 n1 r2 n2 = false ∧ lessB r2 n2 r1 n1 = false ∧ (r1 == r2 && n1 == n2) = true) := by
  simp only [lessB, Bool.or_eq_true, Bool.or_eq_false_iff, Bool.and_eq_true, Bool.and_eq_false_iff, decide_eq_true_eq, decide_eq_false_iff_not, beq_iff_eq, beq_eq_false_iff_ne]
  omega

theorem less_trans (r1 n1 r2 n2 r3 n3 : Int) (h1 : lessB r1 n1 r2 n2 = true) (h2 : lessB r2 n2 r3 n3 = true) : lessB r1 n1 r3 n3 = true := by
  simp only [lessB, Bool.or_eq_true, Bool.and_eq_true, decide_eq_true_eq] at *
  omega

theorem own : ownKnob Try.prog.godebug = none := by kernel_rfl
theorem laidOut : laidOutB Try.prog = true := by kernel_rfl

theorem lawWalk {H : Type} (enc : TypeId × Value → H) : LawWalk enc Try.prog 3 Try.f3 fun _ => True := by
  intro W base args ds p hval hA hsz _
  have hA : DataW.TrodAll enc Try.prog W 0 (fun _ => true) true Try.f3.params.toList args.toList ds p := hA
  rw [Try.params3] at hA hval
  obtain ⟨v0, vs0, d0, ds0, p0, q0, hargs, rfl, rfl, h0, r0⟩ := trodAll_cons hA
  obtain ⟨v1, vs1, d1, ds1, p1, q1, rfl, rfl, rfl, h1, r1⟩ := trodAll_cons r0
  obtain ⟨v2, vs2, d2, ds2, p2, q2, rfl, rfl, rfl, h2, r2⟩ := trodAll_cons r1
  obtain ⟨rfl, rfl, rfl⟩ := trodAll_nil r2
  obtain rfl : args = #[v0, v1, v2] := by cases args; simp_all
  obtain ⟨a, b, rfl, wa, wb⟩ := open_pair Try.underlying23 (by kernel_rfl) (by kernel_rfl) Try.underlying3 Try.underlying3 (hval 0 23 v0 rfl rfl) h0
  obtain ⟨c, d, rfl, wc, wd⟩ := open_pair Try.underlying23 (by kernel_rfl) (by kernel_rfl) Try.underlying3 Try.underlying3 (hval 1 23 v1 rfl rfl) h1
  obtain ⟨e, f, rfl, we, wf⟩ := open_pair Try.underlying23 (by kernel_rfl) (by kernel_rfl) Try.underlying3 Try.underlying3 (hval 2 23 v2 rfl rfl) h2
  refine walk_any a b c d e f _ _ _ W rfl rfl rfl ?_ (fun h1 h2 => less_trans _ _ _ _ _ _ h1 h2)
  exact less_total a b c d

set_option maxRecDepth 100000 in
theorem lifted (os : Os) (started : os.Started) (H : Type) (enc : TypeId × Value → H) :
    ReturnsInHanded {} Try.checked os 3 .any (Rows.ballotOrderSpec.pre6 enc Try.prog Try.f3 Rows.ballotOrderRow.domain false) (Rows.ballotOrderSpec.post enc Try.prog Try.f3 false true false false) := by
  refine returnsInHanded_of_change_sized (C := Try.checked) own started (by kernel_rfl) Try.func3
    (ChangeSpec.witness6 (enc := enc) (C := Try.checked) false ⟨#[], #[.agg #[.int .i64 0, .int .i64 0], .agg #[.int .i64 0, .int .i64 0], .agg #[.int .i64 0, .int .i64 0]], []⟩ 8 (by kernel_rfl) (by kernel_rfl) (by kernel_rfl) (by kernel_rfl)) ?_
  intro W base args ds gs before hval hW hcnd hsz _
  exact law_post (C := Try.checked) laidOut (fun ds h => by match ds, h with | [_, _, _], _ => rfl) 4 rfl Try.underlying4 rfl (by kernel_rfl) hval hW hsz trivial (lawWalk enc)

theorem proved : Rows.BallotOrderSaid :=
  OpenClaim.holds_of_wide 3 Try.f3 rfl rfl rfl rfl rfl rfl rfl ⟨rfl, rfl, rfl, rfl, rfl⟩ rfl rfl rfl rfl rfl (by kernel_rfl) Try.func3 (by kernel_rfl)
    (of_decide_eq_true (by kernel_rfl)) (by unfold Func.isWrapper; first | (rw [if_pos (by decide +kernel)]; kernel_rfl) | (rw [if_neg (by decide +kernel)]; exact ⟨rfl, rfl⟩))
    (fun os started H enc _ => lifted os started H enc)
#print axioms proved
end Go.Proofs.Ytjhegigcjchegaa.ballotOrder
