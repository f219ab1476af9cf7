/-
  The laws' awake, once more (by the contracts of NetQ).
-/
import Derived.Test.YtnnfagdhigodbaaNetR
namespace Go.Proofs.Ytnnfagdhigodbaa.netr
open Go.ChangeShapes Go.WideShapes Go.ChangeAt Go.RowKit
open Go.Proofs.Ytnnfagdhigodbaa.kit Go.Proofs.Ytnnfagdhigodbaa.byt Go.Proofs.Ytnnfagdhigodbaa.netc Go.Proofs.Ytnnfagdhigodbaa.netg Go.Proofs.Ytnnfagdhigodbaa.nets Go.Proofs.Ytnnfagdhigodbaa.netq
set_option linter.unusedVariables false
set_option linter.unusedSimpArgs false
set_option maxHeartbeats 1000000
set_option maxRecDepth 100000
theorem lie_new1 (w : World) (a : Value) (T : TypeId) : Lie (w.alloc (.cells #[a] T)) (some ⟨w.heap.size, 0, none⟩) [a] := by
  refine .inr ⟨_, 0, rfl, by rw [size_new]; omega, fun i hi => ?_⟩
  have hb := blk (hp_alloc_new w (.cells #[a] T))
  rw [Nat.zero_add, hb.1]
  match i, hi with
  | 0, _ => rfl
theorem awake_ok (w : World) : Calls Try.prog 10 #[] w fun e w' => e = .returned (.bool true) ∧ Below w.heap.size w w' := by
  have HN := Lib.hid (newq w 2 (by omega) (by omega))
  go_enter Try.func10, Try.ntmps10
  go_wp2_with fail
  refine HN.out.mono ?_; rintro e w1 ⟨rfl, hn1, hb1⟩
  have HS := Lib.hid (sendq (w1.alloc (.cells #[.int .u8 5] 5)) _ _ _ _ _ 1 2 (some ⟨w1.heap.size, 0, none⟩) [5] 1 (hn1.below (below_new1 w1 (.cells #[.int .u8 5] 5))) (by rw [size_new]; have := hb1.size; omega) (by simp) (lie_new1 w1 _ _))
  have HB1 := Lib.hid (hb1.alloc hb1.size (.cells #[.int .u8 5] 5))
  have e0 : sendE 2 [] [] 1 2 1 = 0 := by decide
  have e1 : (sendQ 2 [] [] 1 2 [5]).length = 1 := by decide
  clear hn1 hb1 HN
  go_wp2_with fail
  refine HS.out.mono ?_; rintro e w2 ⟨rfl, hn2, hb2⟩
  have HN2 := Lib.hid hn2
  have HB2 := Lib.hid (HB1.out.trans hb2)
  clear hn2 hb2 HS
  rw [show ([5] : List Nat).length = 1 from rfl, e0]
  go_wp2_with fail
  refine (lenq w2 _ _ _ _ _ HN2.out).mono ?_; rintro e w3 ⟨rfl, rfl⟩
  rw [e1]
  go_wp2_with fail
  go_ret
  exact ⟨rfl, HB2.out⟩
end Go.Proofs.Ytnnfagdhigodbaa.netr
