/-
  awake: a log of strings of its own.
-/
import Derived.Test.YtpnkohjppbgiaaaSlotA
namespace Go.Proofs.Ytpnkohjppbgiaaa.slotaw
open Go.ChangeShapes Go.WideShapes Go.ChangeAt Go.RowKit Go.Joins
open Go.Proofs.Ytpnkohjppbgiaaa.kit Go.Proofs.Ytpnkohjppbgiaaa.slota
set_option linter.unusedVariables false
set_option linter.unusedSimpArgs false
set_option maxHeartbeats 1000000
set_option maxRecDepth 100000

theorem awake_ok (w : World) : Calls Try.prog 10 #[] w fun e w' => e = .returned (.bool true) ∧ Below w.heap.size w w' := by
  have hp : ∀ w1 : World, w1 = w.alloc (.cells #[.int .i64 3, .int .i64 4, .slice none 0 0] 102) → Calls Try.prog 42 #[.pointer (some ⟨w.heap.size, 0, none⟩), .int .i64 4, .string (ByteArray.mk #[120])] w1 fun e w' => e = .returned (.int .i64 0) ∧ (∃ g, Filled w' w.heap.size g (ByteArray.mk #[120])) ∧ Below w.heap.size w1 w' := fun w1 h => put_ok w1 w.heap.size w.heap.size _ (Nat.le_refl _) (by rw [h, size_new]; omega) (by rw [h]; exact hp_alloc_new w _)
  have HP := Lib.hid hp
  clear hp
  go_enter Try.func10, Try.ntmps10
  go_wp2_with fail
  refine (new_ok w).mono ?_; rintro e w1 ⟨rfl, hw1⟩
  have hb1 : Below w.heap.size w w1 := by rw [hw1]; exact below_new1 w _
  have HP1 := Lib.hid (HP.out w1 hw1)
  clear hw1
  go_wp2_with fail
  refine HP1.out.mono ?_; rintro e w2 ⟨rfl, ⟨g, hF⟩, hb2⟩
  have hB2 : Below w.heap.size w w2 := hb1.trans hb2
  obtain ⟨k0, ⟨c, k2⟩, ⟨t, k3⟩, k4, k5, k6⟩ := hF
  have hG := get_ok w2 w.heap.size g c _ k0 k2 k5 k6
  have K0 := Lib.hid k0; have K2 := Lib.hid k2; have K3 := Lib.hid k3; have K4 := Lib.hid k4
  have HG := Lib.hid hG
  clear hG k0 k2 k3 k4 k5 k6 hb2
  go_wp2_with fail
  refine HG.out.mono ?_; rintro e w3 ⟨rfl, hb3⟩
  have hB3 : Below w.heap.size w w3 := below_step hB2 hb3
  have k0 := cell_step K0.out hb3
  have k2 := cell_step K2.out hb3
  have k3 := cell_step K3.out hb3
  have k4 := cell_step K4.out hb3
  have hN := next_ok w3 w.heap.size g c t 2 3 k0 k2 (by omega) k3 k4 (by omega) (by omega)
  have hF := first_ok w3 w.heap.size 3 k0
  have hT := top_ok w3 w.heap.size 3 0 _ 2 c k0 k2 (by omega) (by omega) (by omega)
  have HN := Lib.hid hN
  have HF := Lib.hid hF
  have J0 := Lib.hid k0
  have J2 := Lib.hid k2
  clear hN hF hT k0 k2 k3 k4 hb3
  go_wp2_with fail
  refine HF.out.mono ?_; rintro e w4 ⟨rfl, rfl⟩
  go_wp2_with fail
  refine HN.out.mono ?_; rintro e w4 ⟨rfl, hb4⟩
  have hB4 : Below w.heap.size w w4 := below_step hB3 hb4
  have k0 := cell_step J0.out hb4
  have k2 := cell_step J2.out hb4
  have hT := top_ok w4 w.heap.size 3 0 _ 2 c k0 k2 (by omega) (by omega) (by omega)
  have HT := Lib.hid hT
  clear hT hb4 k0 k2
  go_wp2_with fail
  refine HT.out.mono ?_; rintro e w5 ⟨rfl, hb5⟩
  have hB5 : Below w.heap.size w w5 := below_step hB4 hb5
  rw [show (3 : Int) + ((2 : Nat) : Int) = 5 from rfl]
  go_wp2_with fail
  go_ret
  exact ⟨rfl, hB5⟩
end Go.Proofs.Ytpnkohjppbgiaaa.slotaw
