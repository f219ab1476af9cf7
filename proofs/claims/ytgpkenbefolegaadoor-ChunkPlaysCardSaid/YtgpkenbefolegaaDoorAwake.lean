/-
  Contract of the laws' awake.
-/
import Derived.Test.YtgpkenbefolegaaDoorCut
namespace Go.Proofs.YtgpkenbefolegaaDoor.cut
open Go.ChangeShapes Go.WideShapes Go.ChangeAt Go.RowKit
open Go.Proofs.YtgpkenbefolegaaDoor.kit Go.Proofs.YtgpkenbefolegaaDoor.byt Go.Proofs.YtgpkenbefolegaaDoor.sum
set_option linter.unusedVariables false
set_option linter.unusedSimpArgs false
set_option maxHeartbeats 1000000
set_option maxRecDepth 100000

theorem awake_ok (w : World) (ht : Tab w) : Calls Tryd.prog 12 #[] w fun e w' => e = .returned (.bool true) ∧ Below w.heap.size w w' := by
  have hC : Calls Tryd.prog 10 #[.slice (some ⟨w.heap.size, 0, none⟩) 2 2] (w.alloc (.cells #[.int .u8 1, .int .u8 2] 5)) (GivesPieces (w.alloc (.cells #[.int .u8 1, .int .u8 2] 5)) [1, 2]) := by
    refine cut_any [1, 2] _ 2 _ (by simp) (by simp) (by omega) (by simp) (by intro x hx; simp at hx; omega) (Tab.below ht (below_new1 _ _)) ?_
    refine .inr ⟨_, 0, rfl, by rw [size_new]; omega, fun i hi => ?_⟩
    have hb := blk2 (hp_alloc_new w (.cells #[.int .u8 1, .int .u8 2] 5))
    match i, hi with
    | 0, _ => exact hb.1
    | 1, _ => exact hb.2.1
  go_enter Tryd.func12, Tryd.ntmps12
  go_wp2_with fail
  refine hC.mono ?_; rintro e w1 ⟨v, ps, rfl, hps, hpl, hpart, hb1⟩
  have hp1 : ps.length = 1 := by rw [hpl]; simp [nOf]
  obtain ⟨g, cap, rfl, _, _, _, hg⟩ := owned_some hps.1 (by omega)
  have hd := (hpart 0 (by omega)).2.2.2
  have hc3 := World.ownsRow.cellAt hps.1 3 (by omega)
  have e3 : (pcellsL ps)[0 * 4 + 3]? = (pcells (ps[0]'(by omega)))[3]? := pcellsL_get ps 0 (by omega) 3 (by omega)
  rw [Nat.zero_mul, Nat.zero_add] at e3
  rw [e3] at hc3
  obtain ⟨p, hp⟩ : ∃ p, p = ps[0]'(by omega) := ⟨_, rfl⟩
  rw [← hp] at hd hc3
  have hc : w1.cell? ⟨g, 3, none⟩ = some (.slice p.addr p.data.length p.cap) := hc3
  have hd2 : p.data.length = 2 := by rw [hd]; simp [part]
  rw [hd2] at hc
  rw [hp1]
  have HB := Lib.hid hb1
  clear hb1 hps hpl hpart hp hd hc3 e3 hC ht
  go_wp2_with fail
  go_ret
  exact ⟨rfl, (below_new1 _ _).trans (Below.mono HB.out (by rw [size_new]; omega))⟩

end Go.Proofs.YtgpkenbefolegaaDoor.cut
