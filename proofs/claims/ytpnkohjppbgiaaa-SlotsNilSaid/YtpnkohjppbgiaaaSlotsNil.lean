/-
  The statement SlotsNil: a nil log.
-/
import Derived.Test.YtpnkohjppbgiaaaSlotT
import Derived.Test.YtpnkohjppbgiaaaSlotA
import Derived.Test.YtpnkohjppbgiaaaChecked
import Derived.Test.YtpnkohjppbgiaaaRows
namespace Go.Proofs.Ytpnkohjppbgiaaa.slotsNil
open Go.ChangeShapes Go.WideShapes Go.ChangeAt Go.RowKit Go.Joins
open Go.Proofs.Ytpnkohjppbgiaaa.kit Go.Proofs.Ytpnkohjppbgiaaa.slotn Go.Proofs.Ytpnkohjppbgiaaa.slota
set_option linter.unusedVariables false
set_option linter.unusedSimpArgs false
set_option maxHeartbeats 1000000
set_option maxRecDepth 100000

theorem awake_ok (w : World) : Calls Try.prog 10 #[] w fun e w' => e = .returned (.bool true) ∧ Below w.heap.size w w' := by
  have hp : ∀ w1 : World, w1 = w.alloc (.cells #[.int .i64 3, .int .i64 4, .slice none 0 0] 102) → Calls Try.prog 42 #[.pointer (some ⟨w.heap.size, 0, none⟩), .int .i64 4, .string (ByteArray.mk #[120])] w1 fun e w' => e = .returned (.int .i64 0) ∧ (∃ g, Filled w' w.heap.size g (ByteArray.mk #[120])) ∧ Below w.heap.size w1 w' := fun w1 h => put_ok w1 w.heap.size w.heap.size _ (Nat.le_refl _) (by rw [h, size_new]; omega) (by rw [h]; exact hp_alloc_new w _)
  have HP := Lib.hid hp
  clear hp
  go_enter Try.func10, Try.ntmps10
  go_wp2_with fail
  refine (new_ok w).mono ?_; rintro e w1 ⟨rfl, hw1⟩
  have hb1 : Below w.heap.size w w1 := by rw [hw1]; exact below_new1 w _
  have HP1 := Lib.hid (HP.out w1 hw1)
  clear hw1
  go_wp2_with fail
  refine HP1.out.mono ?_; rintro e w2 ⟨rfl, ⟨g, hF⟩, hb2⟩
  have hB2 : Below w.heap.size w w2 := hb1.trans hb2
  obtain ⟨k0, ⟨c, k2⟩, ⟨t, k3⟩, k4, k5, k6⟩ := hF
  have hG := get_ok w2 w.heap.size g c _ k0 k2 k5 k6
  have K0 := Lib.hid k0; have K2 := Lib.hid k2; have K3 := Lib.hid k3; have K4 := Lib.hid k4
  have HG := Lib.hid hG
  clear hG k0 k2 k3 k4 k5 k6 hb2
  go_wp2_with fail
  refine HG.out.mono ?_; rintro e w3 ⟨rfl, hb3⟩
  have hB3 : Below w.heap.size w w3 := below_step hB2 hb3
  have k0 := cell_step K0.out hb3
  have k2 := cell_step K2.out hb3
  have k3 := cell_step K3.out hb3
  have k4 := cell_step K4.out hb3
  have hN := next_ok w3 w.heap.size g c t 2 3 k0 k2 (by omega) k3 k4 (by omega) (by omega)
  have hF := first_ok w3 w.heap.size 3 k0
  have hT := top_ok w3 w.heap.size 3 0 _ 2 c k0 k2 (by omega) (by omega) (by omega)
  have HN := Lib.hid hN
  have HF := Lib.hid hF
  have J0 := Lib.hid k0
  have J2 := Lib.hid k2
  clear hN hF hT k0 k2 k3 k4 hb3
  go_wp2_with fail
  refine HF.out.mono ?_; rintro e w4 ⟨rfl, rfl⟩
  go_wp2_with fail
  refine HN.out.mono ?_; rintro e w4 ⟨rfl, hb4⟩
  have hB4 : Below w.heap.size w w4 := below_step hB3 hb4
  have k0 := cell_step J0.out hb4
  have k2 := cell_step J2.out hb4
  have hT := top_ok w4 w.heap.size 3 0 _ 2 c k0 k2 (by omega) (by omega) (by omega)
  have HT := Lib.hid hT
  clear hT hb4 k0 k2
  go_wp2_with fail
  refine HT.out.mono ?_; rintro e w5 ⟨rfl, hb5⟩
  have hB5 : Below w.heap.size w w5 := below_step hB4 hb5
  rw [show (3 : Int) + ((2 : Nat) : Int) = 5 from rfl]
  go_wp2_with fail
  go_ret
  exact ⟨rfl, hB5⟩

theorem walk_ok (i : Int) (w : World) : Calls Try.prog 8 #[.int .i64 i] w fun e w' => e = .returned (.bool true) ∧ Below w.heap.size w w' := by
  go_enter Try.func8, Try.ntmps8
  go_wp2_with fail
  refine (nil_get i _).mono ?_; rintro e w1 ⟨rfl, hb1⟩
  have hB1 : Below w.heap.size w w1 := hb1
  go_wp2_with fail
  refine (told_nil _).mono ?_; rintro e w2 ⟨rfl, hb2⟩
  have hB2 : Below w.heap.size w w2 := below_step hB1 hb2
  go_wp2_with fail
  refine (awake_ok w2).mono ?_; rintro e w3 ⟨rfl, hb3⟩
  have hB3 : Below w.heap.size w w3 := below_step hB2 hb3
  go_wp2_with fail
  refine (nil_first w3).mono ?_; rintro e w4 ⟨rfl, rfl⟩
  go_wp2_with fail
  refine (nil_next w3).mono ?_; rintro e w4 ⟨rfl, rfl⟩
  go_wp2_with fail
  refine (nil_top w3).mono ?_; rintro e w4 ⟨rfl, rfl⟩
  go_wp2_with fail
  refine (nil_len w3).mono ?_; rintro e w4 ⟨rfl, hb4⟩
  have hB4 : Below w.heap.size w w4 := below_step hB3 hb4
  go_wp2_with fail
  refine (nil_put i 1 w4).mono ?_; rintro e w5 ⟨rfl, rfl⟩
  go_wp2_with fail
  refine (nil_cut i w4).mono ?_; rintro e w5 ⟨rfl, rfl⟩
  go_wp2_with fail
  refine (nil_fork w4).mono ?_; rintro e w5 ⟨rfl, rfl⟩
  go_wp2_with fail
  go_ret
  exact ⟨rfl, hB4⟩

theorem lawWalk {H : Type} (enc : TypeId × Value → H) : LawWalk enc Try.prog 8 Try.f8 (fun _ => True) := by
  intro W base args ds p hval hA hsz _
  rw [Try.params8] at hA hval
  obtain ⟨v0, vs0, d0, ds0, p0, q0, hargs, rfl, rfl, h0, r0⟩ := trodAll_cons hA
  obtain ⟨rfl, rfl, rfl⟩ := trodAll_nil r0
  obtain rfl : args = #[v0] := by cases args; simp_all
  obtain ⟨n, rfl, rfl, rfl, w0⟩ := open_int Try.underlying3 (hval 0 3 v0 rfl rfl) h0
  exact walk_ok n W

theorem own : ownKnob Try.prog.godebug = none := by kernel_rfl
theorem laidOut : laidOutB Try.prog = true := by kernel_rfl

set_option maxRecDepth 100000 in
theorem lifted (os : Os) (started : os.Started) (H : Type) (enc : TypeId × Value → H) :
    ReturnsInHanded {} Try.checked os 8 .any (Rows.slotsNilSpec.pre6 enc Try.prog Try.f8 Rows.slotsNilRow.domain false) (Rows.slotsNilSpec.post enc Try.prog Try.f8 false true false false) := by
  refine returnsInHanded_of_change_sized (C := Try.checked) own started (by kernel_rfl) Try.func8
    (ChangeSpec.witness6 (enc := enc) (C := Try.checked) false ⟨#[], #[.int .i64 0], []⟩ 8 (by kernel_rfl) (by kernel_rfl) (by kernel_rfl) (by kernel_rfl)) ?_
  intro W base args ds gs before hval hW hcnd hsz _
  exact law_post (C := Try.checked) laidOut (fun ds h => by match ds, h with | [_], _ => rfl) 4 rfl Try.underlying4 rfl (by kernel_rfl) hval hW hsz trivial (lawWalk enc)

theorem proved : Rows.SlotsNilSaid :=
  OpenClaim.holds_of_wide 8 Try.f8 rfl rfl rfl rfl rfl rfl rfl ⟨rfl, rfl, rfl, rfl, rfl⟩ rfl rfl rfl rfl rfl (by kernel_rfl) Try.func8 (by kernel_rfl)
    (of_decide_eq_true (by kernel_rfl)) (by unfold Func.isWrapper; first | (rw [if_pos (by decide +kernel)]; kernel_rfl) | (rw [if_neg (by decide +kernel)]; exact ⟨rfl, rfl⟩))
    (fun os started H enc _ => lifted os started H enc)
#print axioms proved
end Go.Proofs.Ytpnkohjppbgiaaa.slotsNil
