/-
  A net in memory: Send where it is full, and where it takes the packet.
-/
import Derived.Test.YtnnfagdhigodbaaKit
import Derived.Test.YtnnfagdhigodbaaKit2
import Derived.Test.YtnnfagdhigodbaaBytes
import Derived.Test.YtnnfagdhigodbaaNetC
import Derived.Test.YtnnfagdhigodbaaNetG
import Derived.Test.YtnnfagdhigodbaaNetS
import Derived.Test.YtnnfagdhigodbaaNetT
import Derived.Test.YtnnfagdhigodbaaProg
import Derived.Lib.Hide
import Derived.Deep.RegionWith
import Derived.Deep.RegionLaw
import Derived.Deep.QuietTactic
import Derived.BigQuiet
namespace Go.Proofs.Ytnnfagdhigodbaa.netu
open Go.ChangeShapes Go.WideShapes Go.ChangeAt Go.RowKit
open Go.Proofs.Ytnnfagdhigodbaa.kit Go.Proofs.Ytnnfagdhigodbaa.byt Go.Proofs.Ytnnfagdhigodbaa.netc Go.Proofs.Ytnnfagdhigodbaa.netg Go.Proofs.Ytnnfagdhigodbaa.nets Go.Proofs.Ytnnfagdhigodbaa.nett
set_option linter.unusedVariables false
set_option linter.unusedSimpArgs false
set_option maxHeartbeats 1000000
set_option maxRecDepth 100000

theorem send_full (w : World) (base b : Nat) (nodes x y : Int) (ps : List Pkt) (S : Cuts) (ad : Option Addr) (n k : Nat) (h : NetAt w base b nodes ps S) (hx : 1 ≤ x ∧ x ≤ nodes) (hy : 1 ≤ y ∧ y ≤ nodes) (hl : n ≤ 16384) (hc : pr x y ∉ S) (hf : 256 ≤ ps.length) :
    Calls Try.prog 11 #[.pointer (some ⟨b, 0, none⟩), .int .i64 x, .int .i64 y, .slice ad n k] w fun e w' => e = .returned (.int .i64 3) ∧ Below w.heap.size w w' := by
  obtain ⟨h1, ⟨a, c, mb, h2, h3, h4, h5⟩, h6⟩ := h
  obtain ⟨c0, c1, c2, f0, f1, f2, hz⟩ := blk3 h2
  have hA := has_any w b nodes x c0
  have hB := has_any w b nodes y c0
  rw [decide_eq_true hx] at hA
  rw [decide_eq_true hy] at hB
  have hlk : ∀ W, Below w.heap.size w W → ∃ v : Value, (Instr.lookup 65 (.map (some mb)) (pk (pr x y)) true).run Try.prog W = .ok (.tuple #[v, .bool false]) W := fun W hb => look_out (h4.below hb) _ hc
  have HLK := Lib.hid hlk
  have t1 : decide ((16384 : Int) < n) = false := decide_eq_false (by omega)
  have t2 : ¬ (16384 : Int) < n := by omega
  have t3 : decide ((256 : Int) ≤ ps.length) = true := decide_eq_true (by omega)
  have t4 : (256 : Int) ≤ ps.length := by omega
  clear h2 h4 h5 h6 hlk
  go_enter Try.func11, Try.ntmps11
  go_wp2_with fail
  refine hA.mono ?_; rintro e w1 ⟨rfl, rfl⟩
  go_wp2_with fail
  refine hB.mono ?_; rintro e w1 ⟨rfl, rfl⟩
  go_wp2_with fail
  go_region_with (first | (go_at_call 28; refine (pair_any w.drew x y).mono ?_; rintro e w1 ⟨rfl, hb1⟩; have hb1' := below_step (below_drewN (Below.refl _ w) 1) hb1; have d2 := cell_step c2 hb1'; have d1 := cell_step c1 hb1'; obtain ⟨vv, hlk1⟩ := HLK.out w1 hb1'; have HB1 := Lib.hid hb1'; clear hb1 hb1'))
  all_goals
    go_wp2_with fail
    go_ret
    exact ⟨rfl, HB1.out⟩

theorem send_ok (w : World) (base b : Nat) (nodes x y : Int) (ps : List Pkt) (S : Cuts) (ad : Option Addr) (l : List Nat) (k : Nat) (h : NetAt w base b nodes ps S) (hbw : base ≤ w.heap.size) (hx : 1 ≤ x ∧ x ≤ nodes) (hy : 1 ≤ y ∧ y ≤ nodes) (hl : l.length ≤ 16384) (hc : pr x y ∉ S) (hf : ps.length < 256)
    (hn : ad = none → l.length = 0 ∧ k = 0) (hat : Lie w ad (bcells l)) :
    Calls Try.prog 11 #[.pointer (some ⟨b, 0, none⟩), .int .i64 x, .int .i64 y, .slice ad l.length k] w fun e w' => e = .returned (.int .i64 0) ∧ (∃ a' c', NetAt w' base b nodes (ps ++ [⟨x, y, l, a', c'⟩]) S ∧ ∀ z, a' = some ⟨z, 0, none⟩ → w.heap.size ≤ z) ∧ Below base w w' ∧ Moved w w' b := by
  obtain ⟨j0, hj, hy0, hy1, hy2⟩ := info_parts infoPkt
  obtain ⟨h1, ⟨a, c, mb, h2, h3, h4, h5⟩, h6⟩ := h
  obtain ⟨c0, c1, c2, f0, f1, f2, hz⟩ := blk3 h2
  have hA := has_any w b nodes x c0
  have hB := has_any w b nodes y c0
  rw [decide_eq_true hx] at hA
  rw [decide_eq_true hy] at hB
  have hlk : ∀ W, Below w.heap.size w W → ∃ v : Value, (Instr.lookup 65 (.map (some mb)) (pk (pr x y)) true).run Try.prog W = .ok (.tuple #[v, .bool false]) W := fun W hb => look_out (h4.below hb) _ hc
  have hcp : ∀ W, Below w.heap.size w W → Calls Try.prog 29 #[.agg #[.int .i64 x, .int .i64 y, .slice ad l.length k]] W fun e w' => ∃ a' c', e = .returned (.agg #[.int .i64 x, .int .i64 y, .slice a' l.length c']) ∧ w'.ownsRow W.heap.size 5 1 (.slice a' l.length c') l.length (bcells l) ∧ Below W.heap.size W w' := fun W hb => copied_any W x y ad l k (by omega) hn (hat.below hb)
  have hfin : ∀ (W w5 : World) (a' : Option Addr) (c' : Nat) (v5 : Value), Below w.heap.size w W → W.ownsRow base 5 1 (.slice a' l.length c') l.length (bcells l) → (∀ k, v5.ownBlock = some k → (Value.slice a ps.length c).ownBlock = some k ∨ (W.alloc (.cells #[.int .i64 x, .int .i64 y, .slice a' l.length c'] 48)).heap.size ≤ k) → w5.ownsRow base 48 3 v5 (ps.length + 1) (pkcells ps ++ [.int .i64 x, .int .i64 y, .slice a' l.length c']) →
      (W.alloc (.cells #[.int .i64 x, .int .i64 y, .slice a' l.length c'] 48)).grownBy w5 (Value.slice a ps.length c).ownBlock → NetAt (w5.setCell ⟨b, 1, none⟩ v5) base b nodes (ps ++ [⟨x, y, l, a', c'⟩]) S ∧ (Below base w (w5.setCell ⟨b, 1, none⟩ v5) ∧ Moved w (w5.setCell ⟨b, 1, none⟩ v5) b) ∧ ∃ v, w5.cell? ⟨b, 1, none⟩ = some v ∧ w5.frozen? ⟨b, 1, none⟩ = false := by
    intro W w5 a' c' v5 hb hp hat5 hown hg
    have hB := grown_fin (p := ⟨x, y, l, a', c'⟩) h1 (Nat.le_trans hbw hb.size) (hp_step h2 hb) h3 (h4.below hb) (own_below h5 hb) (fun q hq => own_below (h6 q hq) hb) hp hown hg hat5
    have hh := hp_step h2 hb
    have hzb := (blk hh).2.2
    have h5W := own_below h5 hb
    have hb5 : w5.heap[b]? = some (.cells #[.int .i64 nodes, .slice a ps.length c, .map (some mb)] 67 (0, 0)) := by
      refine ((hg.block b (by rw [size_new]; omega) (fun e => ?_)).trans (hp_alloc_old hzb)).trans hh
      exact own_ne h5W hh (by decide) b (own_block h5W b e.symm) rfl
    exact ⟨hB.1, ⟨(Below.mono hb hbw).trans hB.2.1, (Moved.of_below hb (blk h2).2.2).trans hB.2.2⟩, _, (blk3 hb5).2.1, (blk3 hb5).2.2.2.2.1⟩
  have hO : ∀ W, Below w.heap.size w W → W.ownsRow base 48 3 (.slice a ps.length c) ps.length (pkcells ps) := fun W hb => own_below h5 hb
  have HLK := Lib.hid hlk
  have HCP := Lib.hid hcp
  have HFIN := Lib.hid hfin
  have HO := Lib.hid hO
  have t1 : decide ((16384 : Int) < l.length) = false := decide_eq_false (by omega)
  have t2 : ¬ (16384 : Int) < l.length := by omega
  have t3 : decide ((256 : Int) ≤ ps.length) = false := decide_eq_false (by omega)
  have t4 : ¬ (256 : Int) ≤ ps.length := by omega
  have HBW := Lib.hid hbw
  clear h2 h4 h5 h6 hlk hcp hfin hO hn hat
  go_enter Try.func11, Try.ntmps11
  go_wp2_with fail
  refine hA.mono ?_; rintro e w1 ⟨rfl, rfl⟩
  go_wp2_with fail
  refine hB.mono ?_; rintro e w1 ⟨rfl, rfl⟩
  go_wp2_with fail
  go_region_with (first | (go_at_call 28; refine (pair_any w.drew x y).mono ?_; rintro e w1 ⟨rfl, hb1⟩; have hb1' := below_step (below_drewN (Below.refl _ w) 1) hb1; have d2 := cell_step c2 hb1'; have d1 := cell_step c1 hb1'; obtain ⟨vv, hlk1⟩ := HLK.out w1 hb1'; have HB1 := Lib.hid hb1'; clear hb1 hb1'))
  all_goals
    have hB1d : Below w.heap.size w w1.drew := below_step HB1.out (below_drewN (Below.refl _ w1) 1)
    have HB1d := Lib.hid hB1d
    have HB0 := Lib.hid hbw
    clear hB1d hlk1 c0 c1 c2 f0 f1 f2
    go_wp2_with fail
    go_region_law (first | (go_simp; go_at_call 29; refine (HCP.out w1.drew HB1d.out).mono ?_; rintro e w2 ⟨pa, pc, rfl, hpb, hb2⟩; have HPB := Lib.hid (And.intro (own_mono hpb (Nat.le_trans HB0.out HB1d.out.size)) (show ∀ z, pa = some ⟨z, 0, none⟩ → w.heap.size ≤ z from fun z hz => Nat.le_trans HB1d.out.size (own_from hpb z hz).1)); have HB2 := Lib.hid (below_step HB1d.out hb2); have e1 := cell_step d1 (below_step (below_drewN (Below.refl _ w1) 1) hb2); have e2 : ∀ o : Obj, (w2.alloc o).cell? ⟨b, 1, none⟩ = some (.slice a ps.length c) := fun o => cell_step e1 (below_new1 w2 o); clear hpb hb2) | (refine step_append_at rfl (.tmp 50) (.tmp 56) 43 rfl base 48 j0 _ 3 40 Try.underlying43 hj hy0 hy1 hy2 rfl (by decide) (.slice a ps.length c) ps.length (pkcells ps) rfl ((HO.out _ HB2.out).alloc _) ⟨w2.heap.size, 0, none⟩ 1 1 [.int .i64 x, .int .i64 y, .slice pa l.length pc] rfl rfl (lie_new3 _ _ _ _ _) (by simp [Value.oneCell']) (by unfold maxLen; omega) (by omega) (by rw [size_new]; have := HB2.out.size; omega) ?_; intro v5 w5 hown hgr hat5; obtain ⟨a5, c5, rfl⟩ := own_shape hown; obtain ⟨hF1, hF2, vo, hF3, hF4⟩ := HFIN.out w2 w5 pa pc _ HB2.out HPB.out.1 hat5 hown hgr; have HF := Lib.hid (And.intro hF1 hF2); clear hF1 hF2 hown hgr hat5))
    all_goals
      go_wp2_with fail
      go_ret
      exact ⟨rfl, ⟨_, _, HF.out.1, HPB.out.2⟩, HF.out.2⟩
end Go.Proofs.Ytnnfagdhigodbaa.netu
