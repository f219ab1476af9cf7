/-
  BallotPlays: for every two ballots, list of ballots and number of a node the law returns true, and each argument reads as it did. No condition.
-/
import Derived.Test.YtjhegigcjchegaaRows
import Derived.Test.YtjhegigcjchegaaMay
namespace Go.Proofs.Ytjhegigcjchegaa.ballotPlays
open Go.ChangeShapes Go.WideShapes Go.ChangeAt Go.RowKit Go.Joins
open Go.Proofs.Ytjhegigcjchegaa.kit Go.Proofs.Ytjhegigcjchegaa.bal
set_option linter.unusedVariables false
set_option linter.unusedSimpArgs false
set_option maxHeartbeats 2000000

theorem walk_any (r1 n1 r2 n2 n : Int) (l : List (Int × Int)) (a : Option Addr) (cap : Nat) (hr : (Lit.int .i64 r1).wf = true) (w : World) (hl : l.length ≤ 9223372036854775807) (hat : BalLie w a l) :
    Calls Try.prog 8 #[.agg #[.int .i64 r1, .int .i64 n1], .agg #[.int .i64 r2, .int .i64 n2], .slice a l.length cap, .int .i64 n] w fun e w' => e = .returned (.bool true) ∧ Below w.heap.size w w' := by
  obtain ⟨⟨x, y, z⟩, hN⟩ : ∃ p, nextB r1 n = p := ⟨_, rfl⟩
  obtain ⟨⟨p, q⟩, hQ⟩ : ∃ p, bestB l = p := ⟨_, rfl⟩
  have N1 := fun w => next_any r1 n1 n hr w
  have N2 := fun w => refNext_any r1 n1 n hr w
  rw [hN] at N1 N2
  have M1 := fun w h => most_any l a cap w hl h
  have M2 := fun w h => refMost_any l a cap w hl h
  rw [hQ] at M1 M2
  have M1 := Lib.hid M1
  have M2 := Lib.hid M2
  have N1 := Lib.hid N1
  have N2 := Lib.hid N2
  clear hN hQ
  have he := fun w => eqBallot w p q p q
  have he2 := fun w => eqBallot w x y x y
  go_enter Try.func8, Try.ntmps8
  go_wp2_with fail
  refine (N1.out _).mono ?_; rintro e w1 ⟨rfl, hb1⟩
  obtain ⟨hc1, hf1⟩ := bcell hb1
  have hz1 : w.heap.size < w1.heap.size ∧ w.heap.size + 1 < w1.heap.size := by have := hb1.size; simp at this; omega
  go_wp2_with fail
  refine (N2.out _).mono ?_; rintro e w2 ⟨rfl, hb2⟩
  obtain ⟨hc2, hf2⟩ := bcell hb2
  have hz2 : w.heap.size < w2.heap.size ∧ w.heap.size + 1 < w2.heap.size ∧ w1.heap.size < w2.heap.size := by have := hb2.size; simp at this; omega
  go_wp2_with fail
  obtain ⟨n20, n21, n22⟩ := new2 w (.cells #[.int .i64 r1, .int .i64 n1] 23) (.cells #[.int .i64 r2, .int .i64 n2] 23)
  have A1 := hp_step n20 hb1
  have A2 := hp_step n21 hb1
  have B1 := hp_step (hp_new A1) hb2
  have B2 := hp_step (hp_new A2) hb2
  have B3 := hp_step (hp_alloc_new w1 (.cells #[.int .i64 x, .int .i64 y] 23)) hb2
  have C1 := hp_new (o := .cells #[.int .i64 x, .int .i64 y] 23) B1
  have C2 := hp_new (o := .cells #[.int .i64 x, .int .i64 y] 23) B2
  have C3 := hp_new (o := .cells #[.int .i64 x, .int .i64 y] 23) B3
  have C4 := hp_alloc_new w2 (.cells #[.int .i64 x, .int .i64 y] 23)
  have hB1 : Below w.heap.size w w1 := below_step (below_new2 _ _ _) hb1
  have hB2 : Below w.heap.size w w2 := below_step (hB1.alloc hB1.size _) hb2
  have hB3 : Below w.heap.size w (w2.alloc (.cells #[.int .i64 x, .int .i64 y] 23)) := hB2.alloc hB2.size _
  obtain ⟨c10, c11, _, _, _⟩ := blk2 C1
  obtain ⟨c20, c21, _, _, _⟩ := blk2 C2
  obtain ⟨c30, c31, _, _, _⟩ := blk2 C3
  obtain ⟨c40, c41, _, _, _⟩ := blk2 C4
  clear A1 A2 B1 B2 B3 n20 n21 n22 C1 C2 C3 C4 hc1 hf1 hc2 hf2 hz1 hz2 hB1 hB2 hb1 hb2


  have hStab : ∀ Wx Wy : World, Below Wx.heap.size Wx Wy → (Wx.cell? ⟨w.heap.size, 0, none⟩ = some (.int .i64 r1) ∧ Wx.cell? ⟨w.heap.size, 1, none⟩ = some (.int .i64 n1) ∧ Wx.cell? ⟨w.heap.size + 1, 0, none⟩ = some (.int .i64 r2) ∧ Wx.cell? ⟨w.heap.size + 1, 1, none⟩ = some (.int .i64 n2) ∧ Wx.cell? ⟨w1.heap.size, 0, none⟩ = some (.int .i64 x) ∧ Wx.cell? ⟨w1.heap.size, 1, none⟩ = some (.int .i64 y) ∧ Wx.cell? ⟨w2.heap.size, 0, none⟩ = some (.int .i64 x) ∧ Wx.cell? ⟨w2.heap.size, 1, none⟩ = some (.int .i64 y) ∧ Below w.heap.size w Wx) → (Wy.cell? ⟨w.heap.size, 0, none⟩ = some (.int .i64 r1) ∧ Wy.cell? ⟨w.heap.size, 1, none⟩ = some (.int .i64 n1) ∧ Wy.cell? ⟨w.heap.size + 1, 0, none⟩ = some (.int .i64 r2) ∧ Wy.cell? ⟨w.heap.size + 1, 1, none⟩ = some (.int .i64 n2) ∧ Wy.cell? ⟨w1.heap.size, 0, none⟩ = some (.int .i64 x) ∧ Wy.cell? ⟨w1.heap.size, 1, none⟩ = some (.int .i64 y) ∧ Wy.cell? ⟨w2.heap.size, 0, none⟩ = some (.int .i64 x) ∧ Wy.cell? ⟨w2.heap.size, 1, none⟩ = some (.int .i64 y) ∧ Below w.heap.size w Wy) := by
    intro Wx Wy kk hs
    obtain ⟨s0, s1, s2, s3, s4, s5, s6, s7, s8⟩ := hs
    exact ⟨cell_step s0 kk, cell_step s1 kk, cell_step s2 kk, cell_step s3 kk, cell_step s4 kk, cell_step s5 kk, cell_step s6 kk, cell_step s7 kk, below_step s8 kk⟩
  have HhStab := Lib.hid hStab
  clear hStab
  have hLS : Hid (∀ Wx : World, (Wx.cell? ⟨w.heap.size, 0, none⟩ = some (.int .i64 r1) ∧ Wx.cell? ⟨w.heap.size, 1, none⟩ = some (.int .i64 n1) ∧ Wx.cell? ⟨w.heap.size + 1, 0, none⟩ = some (.int .i64 r2) ∧ Wx.cell? ⟨w.heap.size + 1, 1, none⟩ = some (.int .i64 n2) ∧ Wx.cell? ⟨w1.heap.size, 0, none⟩ = some (.int .i64 x) ∧ Wx.cell? ⟨w1.heap.size, 1, none⟩ = some (.int .i64 y) ∧ Wx.cell? ⟨w2.heap.size, 0, none⟩ = some (.int .i64 x) ∧ Wx.cell? ⟨w2.heap.size, 1, none⟩ = some (.int .i64 y) ∧ Below w.heap.size w Wx) → BalLie Wx a l) := by
    intro Wx hs
    obtain ⟨s0, s1, s2, s3, s4, s5, s6, s7, s8⟩ := hs
    have hK := s8
    exact hat.below hK
  have hLB : Hid (∀ Wx : World, (Wx.cell? ⟨w.heap.size, 0, none⟩ = some (.int .i64 r1) ∧ Wx.cell? ⟨w.heap.size, 1, none⟩ = some (.int .i64 n1) ∧ Wx.cell? ⟨w.heap.size + 1, 0, none⟩ = some (.int .i64 r2) ∧ Wx.cell? ⟨w.heap.size + 1, 1, none⟩ = some (.int .i64 n2) ∧ Wx.cell? ⟨w1.heap.size, 0, none⟩ = some (.int .i64 x) ∧ Wx.cell? ⟨w1.heap.size, 1, none⟩ = some (.int .i64 y) ∧ Wx.cell? ⟨w2.heap.size, 0, none⟩ = some (.int .i64 x) ∧ Wx.cell? ⟨w2.heap.size, 1, none⟩ = some (.int .i64 y) ∧ Below w.heap.size w Wx) → Below w.heap.size w Wx) := by
    intro Wx hs
    obtain ⟨s0, s1, s2, s3, s4, s5, s6, s7, s8⟩ := hs
    have hK := s8
    exact hK
  go_region_held3 (fun w' => w'.cell? ⟨w.heap.size, 0, none⟩ = some (.int .i64 r1) ∧ w'.cell? ⟨w.heap.size, 1, none⟩ = some (.int .i64 n1) ∧ w'.cell? ⟨w.heap.size + 1, 0, none⟩ = some (.int .i64 r2) ∧ w'.cell? ⟨w.heap.size + 1, 1, none⟩ = some (.int .i64 n2) ∧ w'.cell? ⟨w1.heap.size, 0, none⟩ = some (.int .i64 x) ∧ w'.cell? ⟨w1.heap.size, 1, none⟩ = some (.int .i64 y) ∧ w'.cell? ⟨w2.heap.size, 0, none⟩ = some (.int .i64 x) ∧ w'.cell? ⟨w2.heap.size, 1, none⟩ = some (.int .i64 y) ∧ Below w.heap.size w w') (first | (exact ⟨c10, c11, c20, c21, c30, c31, c40, c41, hB3.drew⟩) | (refine HhStab.out _ _ hbn ?_; assumption)) (first | (go_at_call 10; refine (awake_any _).mono ?_; rintro e wn ⟨rfl, hbn⟩) | (go_at_call 22; refine (may_any _ _ _ _).mono ?_; rintro e wn ⟨rfl, hbn⟩) | (go_at_call 23; refine (refMay_any _ _ _ _).mono ?_; rintro e wn ⟨rfl, hbn⟩) | (go_at_call 9; refine (less_any _ _ _ _ _).mono ?_; rintro e wn ⟨rfl, hbn⟩) | (go_at_call 24; refine (refLess_any _ _ _ _ _).mono ?_; rintro e wn ⟨rfl, hbn⟩) | (go_at_call 25; refine (M1.out _ (hLS.out _ ?_)).mono ?_; assumption; rintro e wn ⟨rfl, hbn⟩) | (go_at_call 14; refine (M2.out _ (hLS.out _ ?_)).mono ?_; assumption; rintro e wn ⟨rfl, hbn⟩))
  go_wp2
  go_ret
  exact ⟨rfl, by rename_i hh; exact hLB.out _ hh⟩

theorem rows_bal {w : World} {a : Option Addr} {l : List (Int × Int)} (h : RowsAt w a 2 (l.map fun x => [.int .i64 x.1, .int .i64 x.2])) : BalLie w a l := by
  rcases h with h | ⟨b, off, h1, h2, h3⟩
  · exact .inl (by simpa using h)
  · refine .inr ⟨b, off, h1, h2, fun i hi => ?_⟩
    have hi' : i < (l.map fun x => [Value.int .i64 x.1, Value.int .i64 x.2]).length := by simpa using hi
    have e0 := h3 i hi' 0 (by omega)
    have e1 := h3 i hi' 1 (by omega)
    simp only [List.getElem_map, Nat.add_zero] at e0 e1
    rw [Nat.mul_comm 2 i, e0, e1, List.getElem?_eq_getElem hi]
    exact ⟨rfl, rfl⟩

theorem lawWalk {H : Type} (enc : TypeId × Value → H) : LawWalk enc Try.prog 8 Try.f8 fun _ => True := by
  intro W base args ds p hval hA hsz _
  have hA : DataW.TrodAll enc Try.prog W 0 (fun _ => true) true Try.f8.params.toList args.toList ds p := hA
  rw [Try.params8] at hA hval
  obtain ⟨v0, vs0, d0, ds0, p0, q0, hargs, rfl, rfl, h0, r0⟩ := trodAll_cons hA
  obtain ⟨v1, vs1, d1, ds1, p1, q1, rfl, rfl, rfl, h1, r1⟩ := trodAll_cons r0
  obtain ⟨v2, vs2, d2, ds2, p2, q2, rfl, rfl, rfl, h2, r2⟩ := trodAll_cons r1
  obtain ⟨v3, vs3, d3, ds3, p3, q3, rfl, rfl, rfl, h3, r3⟩ := trodAll_cons r2
  obtain ⟨rfl, rfl, rfl⟩ := trodAll_nil r3
  obtain rfl : args = #[v0, v1, v2, v3] := by cases args; simp_all
  obtain ⟨a, b, rfl, wa, wb⟩ := open_pair Try.underlying23 (by kernel_rfl) (by kernel_rfl) Try.underlying3 Try.underlying3 (hval 0 23 v0 rfl rfl) h0
  obtain ⟨c, d, rfl, wc, wd⟩ := open_pair Try.underlying23 (by kernel_rfl) (by kernel_rfl) Try.underlying3 Try.underlying3 (hval 1 23 v1 rfl rfl) h1
  obtain ⟨ao, l, cap, _, _, rfl, hlc, hcm, _, hrows, _, _, _, _⟩ := open_slice_gen 2 (fun x : Int × Int => [.int .i64 x.1, .int .i64 x.2]) (fun _ _ => True) Try.underlying37 (by kernel_rfl) (by omega)
    (fun n cs y _ h => elem_pair Try.underlying23 (by kernel_rfl) (by kernel_rfl) Try.underlying3 Try.underlying3 n cs y h) (hval 2 37 v2 rfl rfl) h2
  obtain ⟨n, rfl, rfl, rfl, w3⟩ := open_int Try.underlying3 (hval 3 3 v3 rfl rfl) h3
  exact walk_any a b c d n l ao cap wa W (by unfold maxLen at hcm; omega) (rows_bal hrows)

theorem own : ownKnob Try.prog.godebug = none := by kernel_rfl
theorem laidOut : laidOutB Try.prog = true := by kernel_rfl

set_option maxRecDepth 100000 in
theorem lifted (os : Os) (started : os.Started) (H : Type) (enc : TypeId × Value → H) :
    ReturnsInHanded {} Try.checked os 8 .any (Rows.ballotPlaysSpec.pre6 enc Try.prog Try.f8 Rows.ballotPlaysRow.domain false) (Rows.ballotPlaysSpec.post enc Try.prog Try.f8 false true false false) := by
  refine returnsInHanded_of_change_sized (C := Try.checked) own started (by kernel_rfl) Try.func8
    (ChangeSpec.witness6 (enc := enc) (C := Try.checked) false ⟨#[], #[.agg #[.int .i64 0, .int .i64 0], .agg #[.int .i64 0, .int .i64 0], .slice none 0 0, .int .i64 0], []⟩ 8 (by kernel_rfl) (by kernel_rfl) (by kernel_rfl) (by kernel_rfl)) ?_
  intro W base args ds gs before hval hW hcnd hsz _
  exact law_post (C := Try.checked) laidOut (fun ds h => by match ds, h with | [_, _, _, _], _ => rfl) 4 rfl Try.underlying4 rfl (by kernel_rfl) hval hW hsz trivial (lawWalk enc)

theorem proved : Rows.BallotPlaysSaid :=
  OpenClaim.holds_of_wide 8 Try.f8 rfl rfl rfl rfl rfl rfl rfl ⟨rfl, rfl, rfl, rfl, rfl⟩ rfl rfl rfl rfl rfl (by kernel_rfl) Try.func8 (by kernel_rfl)
    (of_decide_eq_true (by kernel_rfl)) (by unfold Func.isWrapper; first | (rw [if_pos (by decide +kernel)]; kernel_rfl) | (rw [if_neg (by decide +kernel)]; exact ⟨rfl, rfl⟩))
    (fun os started H enc _ => lifted os started H enc)
#print axioms proved
end Go.Proofs.Ytjhegigcjchegaa.ballotPlays
