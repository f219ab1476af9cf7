/-
  The laws' awake: a net of two nodes, one packet sent.
-/
import Derived.Test.YtnnfagdhigodbaaKit
import Derived.Test.YtnnfagdhigodbaaMapKit
import Derived.Test.YtnnfagdhigodbaaBytes
import Derived.Test.YtnnfagdhigodbaaProg
import Derived.Lib.Hide
import Derived.Deep.RegionWith
import Derived.Deep.QuietTactic
import Derived.BigQuiet
namespace Go.Proofs.Ytnnfagdhigodbaa.neta
open Go.ChangeShapes Go.WideShapes Go.ChangeAt Go.RowKit
open Go.Proofs.Ytnnfagdhigodbaa.kit Go.Proofs.Ytnnfagdhigodbaa.mapkit Go.Proofs.Ytnnfagdhigodbaa.byt
set_option linter.unusedVariables false
set_option linter.unusedSimpArgs false
set_option maxHeartbeats 1000000
set_option maxRecDepth 100000

theorem look_empty (w : World) (mb clock : Nat) (a b : Int) (hb : w.heap[mb]? = some (.map #[] clock)) :
    (Instr.lookup 65 (.map (some mb)) (.agg #[.int .i64 a, .int .i64 b]) true).run Try.prog w = .ok (.tuple #[.int .i64 0, .bool false]) w := by
  have hz : (zeroValue 3).run Try.prog w = .ok (.int .i64 0) w := by kernel_rfl
  have hck : (Instr.checkKey true 10000 69 (.agg #[.int .i64 a, .int .i64 b])).run Try.prog w = .ok () w := by kernel_rfl
  have hfk : (Instr.findKey 69 (.agg #[.int .i64 a, .int .i64 b]) []).run Try.prog w = .ok none w := by kernel_rfl
  simp [Instr.lookup, run_underlying Try.underlying65, MapKept.run_getObj_map hb, Result.andThen, go_sem, hz, hck, hfk]

theorem new_ok (w : World) : Calls Try.prog 17 #[.int .i64 2] w fun e w' => ∃ nb mb, e = .returned (.tuple #[.pointer (some ⟨nb, 0, none⟩), .int .i64 0]) ∧ w.heap.size ≤ nb ∧ w'.heap[nb]? = some (.cells #[.int .i64 2, .slice none 0 0, .map (some mb)] 67 (0, 0)) ∧ w'.heap[mb]? = some (.map #[] 0) ∧ Below w.heap.size w w' := by
  have hmm := @run_makeMap Try.prog
  have hs : (w.alloc (.map #[] 0)).heap.size = w.heap.size + 1 := size_new _ _
  go_enter Try.func17, Try.ntmps17
  go_wp2_with fail
  exact bodyPost_ret (v := .tuple #[.pointer (some ⟨w.heap.size + 1, 0, none⟩), .int .i64 0]) (by simp [results, Try.results17, go_sem]) rfl
    ⟨_, w.heap.size, rfl, by omega, by rw [← hs]; exact hp_alloc_new _ _, hp_new (hp_alloc_new _ _), below_new2 _ _ _⟩

theorem has_ok (w : World) (nb : Nat) (n k : Int) (h : w.cell? ⟨nb, 0, none⟩ = some (.int .i64 n)) (h1 : 1 ≤ k) (h2 : k ≤ n) : Calls Try.prog 27 #[.pointer (some ⟨nb, 0, none⟩), .int .i64 k] w fun e w' => e = .returned (.bool true) ∧ w = w' := by
  go_enter Try.func27, Try.ntmps27
  go_wp2_with fail
  go_ret
  exact ⟨rfl, rfl⟩

theorem pair_ok (w : World) : Calls Try.prog 28 #[.int .i64 1, .int .i64 2] w fun e w' => e = .returned (.agg #[.int .i64 1, .int .i64 2]) ∧ Below w.heap.size w w' := by
  have hb := blk2 (hp_alloc_new w (.cells #[.int .i64 1, .int .i64 2] 69))
  go_enter Try.func28, Try.ntmps28
  go_wp2_with fail
  exact bodyPost_ret (v := .agg #[.int .i64 1, .int .i64 2]) (by simp [results, Try.results28, go_sem, hb, Result.andThen]) rfl ⟨rfl, below_new1 _ _⟩

theorem len_ok (w : World) (nb : Nat) (a : Option Addr) (n c : Nat) (h : w.cell? ⟨nb, 1, none⟩ = some (.slice a n c)) : Calls Try.prog 13 #[.pointer (some ⟨nb, 0, none⟩)] w fun e w' => e = .returned (.int .i64 n) ∧ w = w' := by
  go_enter Try.func13, Try.ntmps13
  go_wp2_with fail
  go_ret
  exact ⟨rfl, rfl⟩

theorem copied_ok (w : World) (ad : Addr) (c : Nat) (hat : Lie w (some ad) (bcells [5])) : Calls Try.prog 29 #[.agg #[.int .i64 1, .int .i64 2, .slice (some ad) 1 c]] w fun e w' => ∃ a' c', e = .returned (.agg #[.int .i64 1, .int .i64 2, .slice a' 1 c']) ∧ Below w.heap.size w w' := by
  obtain ⟨w2, hw2⟩ : ∃ w2 : World, w2 = (w.alloc (.cells #[.int .i64 1, .int .i64 2, .slice (some ad) 1 c] 48)).alloc (.cells #[.int .i64 0, .int .i64 0, .slice none 0 0] 48) := ⟨_, rfl⟩
  have hn := new2 w (.cells #[.int .i64 1, .int .i64 2, .slice (some ad) 1 c] 48) (.cells #[.int .i64 0, .int .i64 0, .slice none 0 0] 48)
  have hB2 := below_new2 w (.cells #[.int .i64 1, .int .i64 2, .slice (some ad) 1 c] 48) (.cells #[.int .i64 0, .int .i64 0, .slice none 0 0] 48)
  rw [← hw2] at hn hB2
  have hC := clone_any [5] (some ad) c w2 (by simp) (by simp) (hat.below hB2)
  have HC := Lib.hid hC
  have HN := Lib.hid hn
  have HW := Lib.hid hw2
  clear hat hC hn hw2
  go_enter Try.func29, Try.ntmps29
  go_wp2_with fail
  rw [← HW.out]
  refine HC.out.mono ?_; rintro e w3 ⟨v, rfl, hv, hb3⟩
  obtain ⟨ao, cap, rfl, -, -, -⟩ := owned_lie hv
  have h1 := hp_step HN.out.1 hb3
  have h2 := hp_step HN.out.2.1 hb3
  obtain ⟨a0, a1, a2, _, _, g2, z1⟩ := blk3 h1
  obtain ⟨b0, b1, b2, f0, f1, f2, z2⟩ := blk3 h2
  have hB3 : Below w.heap.size w w3 := below_step hB2 hb3
  have hsz : w2.heap.size = w.heap.size + 1 + 1 := HN.out.2.2
  have hEnd : ∃ WF : World, WF = ((((w3.setCell ⟨w.heap.size, 2, none⟩ (.slice ao 1 cap)).setCell ⟨w.heap.size + 1, 0, none⟩ (.int .i64 1)).setCell ⟨w.heap.size + 1, 1, none⟩ (.int .i64 2)).setCell ⟨w.heap.size + 1, 2, none⟩ (.slice ao 1 cap)) ∧
      WF.heap[w.heap.size + 1]? = some (.cells #[.int .i64 1, .int .i64 2, .slice ao 1 cap] 48 (0, 0)) ∧ Below w.heap.size w WF :=
    ⟨_, rfl, hp_set (hp_set (hp_set ((hp_set_ne (show w.heap.size + 1 ≠ w.heap.size by omega)).trans h2) 0 _) 1 _) 2 _,
      (((hB3.setCell (p := ⟨w.heap.size, 2, none⟩) (Nat.le_refl _) _).setCell (p := ⟨w.heap.size + 1, 0, none⟩) (by simp) _).setCell (p := ⟨w.heap.size + 1, 1, none⟩) (by simp) _).setCell (p := ⟨w.heap.size + 1, 2, none⟩) (by simp) _⟩
  have HE := Lib.hid hEnd
  clear hv hb3 h1 h2 hB3 hEnd
  go_wp2_with fail
  obtain ⟨WF, hWF, hr, hB⟩ := HE.out
  rw [← hWF]
  obtain ⟨r0, r1, r2, _⟩ := blk3 hr
  clear hWF a0 a1 a2 b0 b1 b2
  exact bodyPost_ret (v := .agg #[.int .i64 1, .int .i64 2, .slice ao 1 cap]) (by simp [results, Try.results29, go_sem, r0, r1, r2, Result.andThen]) rfl ⟨ao, cap, rfl, hB⟩

theorem infoPkt : (Try.prog.info? 48).map (fun i => (i.zero, i.size, i.bytes)) = some (some (.agg #[.int .i64 0, .int .i64 0, .slice none 0 0]), 3, 40) := by kernel_rfl

theorem send_ok (w : World) (nb mb clock : Nat) (ad : Addr) (c base : Nat) (hbase : base ≤ nb) (hbw : base ≤ w.heap.size) (hnb : w.heap[nb]? = some (.cells #[.int .i64 2, .slice none 0 0, .map (some mb)] 67 (0, 0))) (hmb : w.heap[mb]? = some (.map #[] clock)) (hat : Lie w (some ad) (bcells [5])) :
    Calls Try.prog 11 #[.pointer (some ⟨nb, 0, none⟩), .int .i64 1, .int .i64 2, .slice (some ad) 1 c] w fun e w' => e = .returned (.int .i64 0) ∧ (∃ a n, w'.cell? ⟨nb, 1, none⟩ = some (.slice a 1 n)) ∧ Below base w w' := by
  obtain ⟨c0, c1, c2, f0, f1, f2, hz⟩ := blk3 hnb
  have HAT := Lib.hid hat
  have HNB := Lib.hid hnb
  have HMB := Lib.hid hmb
  clear hnb hmb hat
  go_enter Try.func11, Try.ntmps11
  go_wp2_with fail
  refine (has_ok w nb 2 1 c0 (by omega) (by omega)).mono ?_; rintro e w1 ⟨rfl, rfl⟩
  go_wp2_with fail
  refine (has_ok w nb 2 2 c0 (by omega) (by omega)).mono ?_; rintro e w1 ⟨rfl, rfl⟩
  go_wp2_with fail
  go_region_with (first | (go_at_call 28; refine (pair_ok w.drew).mono ?_; rintro e w1 ⟨rfl, hb1⟩; have d2 := cell_step c2 (below_step (below_drewN (Below.refl _ w) 1) hb1); have hlk := look_empty w1 mb clock 1 2 (hp_step HMB.out (below_step (below_drewN (Below.refl _ w) 1) hb1))))
  all_goals
    have hbw1 : Below w.heap.size w w1 := below_step (below_drewN (Below.refl _ w) 1) hb1
    have d1 := cell_step c1 hbw1
    have d0 := cell_step c0 hbw1
    have hnb1 := hp_step HNB.out hbw1
    have HNB1 := Lib.hid hnb1
    have HB1 := Lib.hid hbw1
    clear c0 c1 c2 f0 f1 f2 hb1 hbw1 hnb1 hlk
    go_wp2_with fail
    go_region_with (first | (go_at_call 29; refine (copied_ok w1.drew ad c (HAT.out.below (below_step HB1.out (below_drewN (Below.refl _ w1) 1)))).mono ?_; rintro e w2 ⟨pa, pc, rfl, hb2⟩; have hbw2 := below_step (below_drewN (Below.refl _ w1) 1) hb2; have e1 := cell_step d1 hbw2; have g1 := (blk3 (hp_step HNB1.out hbw2)).2.2.2.2.1; have zz := (blk3 (hp_step HNB1.out hbw2)).2.2.2.2.2.2; have HB2 := Lib.hid hbw2; clear hb2 hbw2))
    all_goals
      have hnb2 := hp_step HNB1.out HB2.out
      have hBw2 : Below base w w2 := (Below.mono (below_step HB1.out HB2.out) hbw)
      have hfin : ∀ (v : Value) (o1 o2 : Obj), ((((w2.setCell ⟨nb, 1, none⟩ v).alloc o1).alloc o2).drew).cell? ⟨nb, 1, none⟩ = some v ∧ Below base w ((((w2.setCell ⟨nb, 1, none⟩ v).alloc o1).alloc o2).drew) := by
        intro v o1 o2
        have h1 : ((((w2.setCell ⟨nb, 1, none⟩ v).alloc o1).alloc o2).drew).heap[nb]? = some (.cells #[.int .i64 2, v, .map (some mb)] 67 (0, 0)) := hp_new (hp_new (hp_set hnb2 1 v))
        have hs := hBw2.size
        refine ⟨(blk3 h1).2.1, below_drewN (((hBw2.setCell (p := ⟨nb, 1, none⟩) hbase v).alloc (by rw [size_set]; omega) o1).alloc (by rw [size_new, size_set]; omega) o2) 1⟩
      have HFIN := Lib.hid hfin
      clear hfin hnb2 hBw2 e1 g1 d0 d1 d2
      go_wp2_with fail
      go_ret
      exact ⟨rfl, ⟨_, _, (HFIN.out _ _ _).1⟩, (HFIN.out _ _ _).2⟩
end Go.Proofs.Ytnnfagdhigodbaa.neta
