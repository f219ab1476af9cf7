/-
  The statement NetNil: a nil net.
-/
import Derived.Test.YtnnfagdhigodbaaNetN
import Derived.Test.YtnnfagdhigodbaaNetA
import Derived.Test.YtnnfagdhigodbaaChecked
import Derived.Test.YtnnfagdhigodbaaRows
namespace Go.Proofs.Ytnnfagdhigodbaa.netNil
open Go.ChangeShapes Go.WideShapes Go.ChangeAt Go.RowKit Go.Joins
open Go.Proofs.Ytnnfagdhigodbaa.kit Go.Proofs.Ytnnfagdhigodbaa.mapkit Go.Proofs.Ytnnfagdhigodbaa.byt Go.Proofs.Ytnnfagdhigodbaa.netn Go.Proofs.Ytnnfagdhigodbaa.neta
set_option linter.unusedVariables false
set_option linter.unusedSimpArgs false
set_option maxHeartbeats 1000000
set_option maxRecDepth 100000

theorem nil_send (a b : Int) (v : Value) (w : World) : Calls Try.prog 11 #[.pointer none, .int .i64 a, .int .i64 b, v] w fun e w' => e = .returned (.int .i64 2) ∧ w = w' := by
  go_enter Try.func11, Try.ntmps11
  go_wp2_with fail
  go_ret
  exact ⟨rfl, rfl⟩
theorem nil_place (a : Int) (w : World) : Calls Try.prog 30 #[.pointer none, .int .i64 a] w fun e w' => e = .returned (.int .i64 2) ∧ w = w' := by
  go_enter Try.func30, Try.ntmps30
  go_wp2_with fail
  go_ret
  exact ⟨rfl, rfl⟩
theorem nil_deliver (a : Int) (w : World) : Calls Try.prog 23 #[.pointer none, .int .i64 a] w fun e w' => e = .returned (.tuple #[.agg #[.int .i64 0, .int .i64 0, .slice none 0 0], .int .i64 2]) ∧ Below w.heap.size w w' := by
  have hb := blk3 (hp_alloc_new w (.cells #[.int .i64 0, .int .i64 0, .slice none 0 0] 48))
  go_enter Try.func23, Try.ntmps23
  go_wp2_with fail
  refine (nil_place a _).mono ?_; rintro e w1 ⟨rfl, rfl⟩
  go_wp2_with fail
  exact bodyPost_ret (v := .tuple #[.agg #[.int .i64 0, .int .i64 0, .slice none 0 0], .int .i64 2]) (by simp [results, Try.results23, go_sem, hb, Result.andThen]) rfl ⟨rfl, below_new1 _ _⟩
theorem nil_drop (a : Int) (w : World) : Calls Try.prog 14 #[.pointer none, .int .i64 a] w fun e w' => e = .returned (.int .i64 2) ∧ Below w.heap.size w w' := by
  go_enter Try.func14, Try.ntmps14
  go_wp2_with fail
  refine (nil_deliver a w).mono ?_; rintro e w1 ⟨rfl, hb⟩
  have HB := Lib.hid hb
  clear hb
  go_wp2_with fail
  go_ret
  exact ⟨rfl, HB.out.alloc HB.out.size _⟩
theorem nil_double (a : Int) (w : World) : Calls Try.prog 16 #[.pointer none, .int .i64 a] w fun e w' => e = .returned (.int .i64 2) ∧ w = w' := by
  go_enter Try.func16, Try.ntmps16
  go_wp2_with fail
  refine (nil_place a w).mono ?_; rintro e w1 ⟨rfl, rfl⟩
  go_wp2_with fail
  go_ret
  exact ⟨rfl, rfl⟩
theorem nil_cut (a b : Int) (w : World) : Calls Try.prog 15 #[.pointer none, .int .i64 a, .int .i64 b] w fun e w' => e = .returned (.int .i64 2) ∧ w = w' := by
  go_enter Try.func15, Try.ntmps15
  go_wp2_with fail
  go_ret
  exact ⟨rfl, rfl⟩
theorem nil_heal (w : World) : Calls Try.prog 12 #[.pointer none] w fun e w' => e = .returned (.int .i64 2) ∧ w = w' := by
  go_enter Try.func12, Try.ntmps12
  go_wp2_with fail
  go_ret
  exact ⟨rfl, rfl⟩
theorem nil_fork (w : World) : Calls Try.prog 25 #[.pointer none] w fun e w' => e = .returned (.pointer none) ∧ w = w' := by
  go_enter Try.func25, Try.ntmps25
  go_wp2_with fail
  go_ret
  exact ⟨rfl, rfl⟩

theorem awake_ok (w : World) : Calls Try.prog 10 #[] w fun e w' => e = .returned (.bool true) ∧ Below w.heap.size w w' := by
  go_enter Try.func10, Try.ntmps10
  go_wp2_with fail
  refine (new_ok w).mono ?_; rintro e w1 ⟨nb, mb, rfl, hnb, h1, h2, hb1⟩
  have hs1 := hb1.size
  have hat : Lie (w1.alloc (.cells #[.int .u8 5] 5)) (some ⟨w1.heap.size, 0, none⟩) (bcells [5]) :=
    .inr ⟨_, 0, rfl, by rw [size_new]; omega, fun i hi => by rw [Nat.zero_add, (blk (hp_alloc_new _ _)).1]; match i, hi with | 0, _ => rfl⟩
  have hS := send_ok (w1.alloc (.cells #[.int .u8 5] 5)) nb mb 0 ⟨w1.heap.size, 0, none⟩ 1 w.heap.size hnb (by rw [size_new]; omega) (hp_new h1) (hp_new h2) hat
  have hBa : Below w.heap.size w (w1.alloc (.cells #[.int .u8 5] 5)) := hb1.alloc hs1 _
  have HS := Lib.hid hS
  have HB := Lib.hid hBa
  clear hat hS hBa h1 h2
  go_wp2_with fail
  refine HS.out.mono ?_; rintro e w2 ⟨rfl, ⟨a, n, hc⟩, hb2⟩
  have hB2 : Below w.heap.size w w2 := HB.out.trans hb2
  go_wp2_with fail
  refine (len_ok w2 nb a 1 n hc).mono ?_; rintro e w3 ⟨rfl, rfl⟩
  go_wp2_with fail
  go_ret
  exact ⟨rfl, hB2⟩

theorem walk_ok (a b : Int) (w : World) : Calls Try.prog 8 #[.int .i64 a, .int .i64 b] w fun e w' => e = .returned (.bool true) ∧ Below w.heap.size w w' := by
  go_enter Try.func8, Try.ntmps8
  go_wp2_with fail
  refine (nil_deliver a w).mono ?_; rintro e w1 ⟨rfl, hb1⟩
  have hB1 : ∀ o, Below w.heap.size w (w1.alloc o) := fun o => hb1.alloc hb1.size o
  have HB1 := Lib.hid hB1
  clear hB1
  go_wp2_with fail
  refine (list_nil _).mono ?_; rintro e w2 ⟨rfl, hb2⟩
  have hB2 : Below w.heap.size w w2 := below_step (HB1.out _) hb2
  go_wp2_with fail
  refine (awake_ok w2).mono ?_; rintro e w3 ⟨rfl, hb3⟩
  have hB3 : Below w.heap.size w w3 := below_step hB2 hb3
  go_wp2_with fail
  refine (nil_send a b _ w3).mono ?_; rintro e w4 ⟨rfl, rfl⟩
  go_wp2_with fail
  refine (nil_drop a w3).mono ?_; rintro e w4 ⟨rfl, hb4⟩
  have hB4 : Below w.heap.size w w4 := below_step hB3 hb4
  go_wp2_with fail
  refine (nil_double a w4).mono ?_; rintro e w5 ⟨rfl, rfl⟩
  go_wp2_with fail
  refine (nil_cut a b w4).mono ?_; rintro e w5 ⟨rfl, rfl⟩
  go_wp2_with fail
  refine (nil_heal w4).mono ?_; rintro e w5 ⟨rfl, rfl⟩
  go_wp2_with fail
  refine (nil_len w4).mono ?_; rintro e w5 ⟨rfl, rfl⟩
  go_wp2_with fail
  refine (nil_fork w5).mono ?_; rintro e w6 ⟨rfl, rfl⟩
  go_wp2_with fail
  go_ret
  exact ⟨rfl, hB4⟩

theorem lawWalk {H : Type} (enc : TypeId × Value → H) : LawWalk enc Try.prog 8 Try.f8 (fun _ => True) := by
  intro W base args ds p hval hA hsz _
  rw [Try.params8] at hA hval
  obtain ⟨v0, vs0, d0, ds0, p0, q0, hargs, rfl, rfl, h0, r0⟩ := trodAll_cons hA
  obtain ⟨v1, vs1, d1, ds1, p1, q1, rfl, rfl, rfl, h1, r1⟩ := trodAll_cons r0
  obtain ⟨rfl, rfl, rfl⟩ := trodAll_nil r1
  obtain rfl : args = #[v0, v1] := by cases args; simp_all
  obtain ⟨n, rfl, rfl, rfl, w0⟩ := open_int Try.underlying3 (hval 0 3 v0 rfl rfl) h0
  obtain ⟨m, rfl, rfl, rfl, w1⟩ := open_int Try.underlying3 (hval 1 3 v1 rfl rfl) h1
  exact walk_ok n m W

theorem own : ownKnob Try.prog.godebug = none := by kernel_rfl
theorem laidOut : laidOutB Try.prog = true := by kernel_rfl

set_option maxRecDepth 100000 in
theorem lifted (os : Os) (started : os.Started) (H : Type) (enc : TypeId × Value → H) :
    ReturnsInHanded {} Try.checked os 8 .any (Rows.netNilSpec.pre6 enc Try.prog Try.f8 Rows.netNilRow.domain false) (Rows.netNilSpec.post enc Try.prog Try.f8 false true false false) := by
  refine returnsInHanded_of_change_sized (C := Try.checked) own started (by kernel_rfl) Try.func8
    (ChangeSpec.witness6 (enc := enc) (C := Try.checked) false ⟨#[], #[.int .i64 0, .int .i64 0], []⟩ 8 (by kernel_rfl) (by kernel_rfl) (by kernel_rfl) (by kernel_rfl)) ?_
  intro W base args ds gs before hval hW hcnd hsz _
  exact law_post (C := Try.checked) laidOut (fun ds h => by match ds, h with | [_, _], _ => rfl) 4 rfl Try.underlying4 rfl (by kernel_rfl) hval hW hsz trivial (lawWalk enc)

theorem proved : Rows.NetNilSaid :=
  OpenClaim.holds_of_wide 8 Try.f8 rfl rfl rfl rfl rfl rfl rfl ⟨rfl, rfl, rfl, rfl, rfl⟩ rfl rfl rfl rfl rfl (by kernel_rfl) Try.func8 (by kernel_rfl)
    (of_decide_eq_true (by kernel_rfl)) (by unfold Func.isWrapper; first | (rw [if_pos (by decide +kernel)]; kernel_rfl) | (rw [if_neg (by decide +kernel)]; exact ⟨rfl, rfl⟩))
    (fun os started H enc _ => lifted os started H enc)
#print axioms proved
end Go.Proofs.Ytnnfagdhigodbaa.netNil
