/-
  The statements' awake.
-/
import Derived.Test.YtafjmedjaepimaaAccI
namespace Go.Proofs.Ytafjmedjaepimaa.accj
open Go.ChangeShapes Go.WideShapes Go.ChangeAt Go.RowKit
open Go.Proofs.Ytafjmedjaepimaa.kit Go.Proofs.Ytafjmedjaepimaa.mapkit Go.Proofs.Ytafjmedjaepimaa.byt Go.Proofs.Ytafjmedjaepimaa.own Go.Proofs.Ytafjmedjaepimaa.accd Go.Proofs.Ytafjmedjaepimaa.acca Go.Proofs.Ytafjmedjaepimaa.accb Go.Proofs.Ytafjmedjaepimaa.acck Go.Proofs.Ytafjmedjaepimaa.acce Go.Proofs.Ytafjmedjaepimaa.accf Go.Proofs.Ytafjmedjaepimaa.accg Go.Proofs.Ytafjmedjaepimaa.acch Go.Proofs.Ytafjmedjaepimaa.acci
set_option linter.unusedVariables false
set_option linter.unusedSimpArgs false
set_option maxHeartbeats 1000000
set_option maxRecDepth 100000

theorem lie_new1 (w : World) (a : Value) (T : TypeId) : Lie (w.alloc (.cells #[a] T)) (some ⟨w.heap.size, 0, none⟩) [a] := by
  refine .inr ⟨_, 0, rfl, by rw [size_new]; omega, fun i hi => ?_⟩
  have hb := kit.blk (hp_alloc_new w (.cells #[a] T))
  rw [Nat.zero_add, hb.1]
  match i, hi with
  | 0, _ => rfl
theorem keep_below {w w' : World} {b mb n : Nat} (hk : Keep (fun k => k = b ∨ k = mb) w w') (hn : n ≤ w.heap.size) (hb : n ≤ b) (hm : n ≤ mb) : Below n w w' := hk.below hn (fun k h e => by rcases e with e | e <;> omega)
theorem awake_any (w : World) : Calls Try.prog 11 #[] w fun e w' => e = .returned (.bool true) ∧ Below w.heap.size w w' := by
  have HN := Lib.hid (newA_ok w)
  go_enter Try.func11, Try.ntmps11
  go_wp2_with fail
  refine HN.out.mono ?_; rintro e w1 ⟨rfl, hA1, hb1⟩
  obtain ⟨w2, hw2⟩ : ∃ w2 : World, w2 = w1.alloc (.cells #[.int .u8 5] 5) := ⟨_, rfl⟩
  have hb2 : Below w1.heap.size w1 w2 := by rw [hw2]; exact below_new1 _ _
  have hs1 := hb1.size
  have hl : Lie w2 (some ⟨w1.heap.size, 0, none⟩) (bcells [5]) := by rw [hw2]; exact lie_new1 _ _ _
  have hs2 := hb2.size
  have HAC := Lib.hid (accept_ok w2 w.heap.size _ _ startS ⟨2, 1, 1, [5], some ⟨w1.heap.size, 0, none⟩, 1⟩ (hA1.below hb2) (by omega) ⟨hl, by simp, by simp⟩ (by simp) (by simp))
  have hE : accE startS.r startS.n startS.first (lv ⟨2, 1, 1, [5], some ⟨w1.heap.size, 0, none⟩, 1⟩) = 0 := rfl
  rw [hE] at HAC
  have HB2 := Lib.hid (below_step hb1 hb2)
  have HW := Lib.hid hw2
  simp only [Vt.val] at HAC
  clear hb1 hb2 hw2 hl hE HN hA1
  go_wp2_with fail
  rw [← HW.out]
  refine HAC.out.mono ?_; rintro e w3 ⟨rfl, hA3, hk3⟩
  have HB3 := Lib.hid (HB2.out.trans (keep_below hk3 (by omega) (by omega) (Nat.le_refl _)))
  have hs3 := hk3.size
  have HV := Lib.hid (votes_ok w3 _ _ _ _ hA3)
  have HA3 := Lib.hid hA3
  clear hk3 hA3 HAC
  go_wp2_with fail
  refine HV.out.mono ?_; rintro e w4 ⟨v, rfl, ht, hb4⟩
  obtain ⟨a, c, xs, rfl, hxl, -, -⟩ := ht
  have hx1 : xs.length = 1 := by have := congrArg List.length hxl; rw [List.length_map] at this; exact this
  rw [hx1]
  have hF := first_ok w4 _ _ _ _ (HA3.out.below hb4)
  rw [show (accS startS (lv ⟨2, 1, 1, [5], some ⟨w1.heap.size, 0, none⟩, 1⟩)).first = 1 from rfl] at hF
  have HF := Lib.hid hF
  have HB4 := Lib.hid (HB3.out.trans (Below.mono hb4 (by omega)))
  clear hxl hb4 HV hF
  go_wp2_with fail
  refine HF.out.mono ?_; rintro e w5 ⟨rfl, rfl⟩
  go_wp2_with fail
  go_ret
  exact ⟨rfl, HB4.out⟩
end Go.Proofs.Ytafjmedjaepimaa.accj
