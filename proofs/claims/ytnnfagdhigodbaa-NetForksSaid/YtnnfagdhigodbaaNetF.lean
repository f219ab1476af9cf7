/-
  A net in memory: Double.
-/
import Derived.Test.YtnnfagdhigodbaaKit
import Derived.Test.YtnnfagdhigodbaaKit2
import Derived.Test.YtnnfagdhigodbaaBytes
import Derived.Test.YtnnfagdhigodbaaNetC
import Derived.Test.YtnnfagdhigodbaaNetG
import Derived.Test.YtnnfagdhigodbaaNetS
import Derived.Test.YtnnfagdhigodbaaNetT
import Derived.Test.YtnnfagdhigodbaaNetD
import Derived.Test.YtnnfagdhigodbaaNetE
import Derived.Test.YtnnfagdhigodbaaProg
import Derived.Lib.Hide
import Derived.Deep.RegionWith
import Derived.Deep.RegionLaw
import Derived.Deep.QuietTactic
import Derived.BigQuiet
namespace Go.Proofs.Ytnnfagdhigodbaa.netf
open Go.ChangeShapes Go.WideShapes Go.ChangeAt Go.RowKit
open Go.Proofs.Ytnnfagdhigodbaa.kit Go.Proofs.Ytnnfagdhigodbaa.byt Go.Proofs.Ytnnfagdhigodbaa.netc Go.Proofs.Ytnnfagdhigodbaa.netg Go.Proofs.Ytnnfagdhigodbaa.nets Go.Proofs.Ytnnfagdhigodbaa.nett Go.Proofs.Ytnnfagdhigodbaa.netd Go.Proofs.Ytnnfagdhigodbaa.nete
set_option linter.unusedVariables false
set_option linter.unusedSimpArgs false
set_option maxHeartbeats 1000000
set_option maxRecDepth 100000

theorem double_out (w : World) (base b : Nat) (nodes i : Int) (ps : List Pkt) (S : Cuts) (h : NetAt w base b nodes ps S) (hi : ¬ (0 ≤ i ∧ i < ps.length)) : Calls Try.prog 16 #[.pointer (some ⟨b, 0, none⟩), .int .i64 i] w fun e w' => e = .returned (.int .i64 60) ∧ w = w' := by
  have HP := Lib.hid (place_out w base b nodes i ps S h hi)
  clear h
  go_enter Try.func16, Try.ntmps16
  go_wp2_with fail
  refine HP.out.mono ?_; rintro e w1 ⟨rfl, rfl⟩
  go_wp2_with fail
  go_ret
  exact ⟨rfl, rfl⟩

theorem double_full (w : World) (base b : Nat) (nodes i : Int) (ps : List Pkt) (S : Cuts) (h : NetAt w base b nodes ps S) (hi : 0 ≤ i ∧ i < ps.length) (hf : 256 ≤ ps.length) : Calls Try.prog 16 #[.pointer (some ⟨b, 0, none⟩), .int .i64 i] w fun e w' => e = .returned (.int .i64 3) ∧ w = w' := by
  have HP := Lib.hid (place_in w base b nodes i ps S h hi.1 hi.2)
  obtain ⟨h1, ⟨a, c, mb, h2, h3, h4, h5⟩, h6⟩ := h
  obtain ⟨c0, c1, c2, f0, f1, f2, hz⟩ := blk3 h2
  have t3 : decide ((256 : Int) ≤ ps.length) = true := decide_eq_true (by omega)
  have t4 : (256 : Int) ≤ ps.length := by omega
  clear h2 h4 h5 h6 hi
  go_enter Try.func16, Try.ntmps16
  go_wp2_with fail
  refine HP.out.mono ?_; rintro e w1 ⟨rfl, rfl⟩
  go_wp2_with fail
  go_ret
  exact ⟨rfl, rfl⟩

theorem body_lie {w : World} {base : Nat} {p : Pkt} (h : Body w base p) : Lie w p.a (bcells p.l) ∧ (p.a = none → p.l.length = 0 ∧ p.c = 0) := by
  obtain ⟨ao, cap, e, h1, h2, h3⟩ := owned_lie h
  simp only [Value.slice.injEq, true_and] at e
  obtain ⟨rfl, rfl⟩ := e
  exact ⟨h2, h1⟩

theorem double_ok (w : World) (base b k : Nat) (nodes : Int) (ps : List Pkt) (S : Cuts) (h : NetAt w base b nodes ps S) (hbw : base ≤ w.heap.size) (hk : k < ps.length) (hl : ps[k].l.length ≤ 16384) (hf : ps.length < 256) :
    Calls Try.prog 16 #[.pointer (some ⟨b, 0, none⟩), .int .i64 k] w fun e w' => e = .returned (.int .i64 0) ∧ (∃ a' c', NetAt w' base b nodes (ps ++ [⟨ps[k].f, ps[k].t, ps[k].l, a', c'⟩]) S ∧ ∀ z, a' = some ⟨z, 0, none⟩ → w.heap.size ≤ z) ∧ Below base w w' ∧ Moved w w' b := by
  have HP := Lib.hid (place_in w base b nodes k ps S h (by omega) (by omega))
  obtain ⟨j0, hj, hy0, hy1, hy2⟩ := info_parts infoPkt
  obtain ⟨h1, ⟨a, c, mb, h2, h3, h4, h5⟩, h6⟩ := h
  obtain ⟨g, rfl⟩ := own_ptr h5 (by omega)
  obtain ⟨c0, c1, c2, f0, f1, f2, hz⟩ := blk3 h2
  obtain ⟨q0, q1, q2⟩ := pk_cells h5 hk
  obtain ⟨hat, hn⟩ := body_lie (h6 _ (List.getElem_mem hk))
  obtain ⟨x, hx⟩ : ∃ x, x = ps[k].f := ⟨_, rfl⟩
  obtain ⟨y, hy⟩ : ∃ y, y = ps[k].t := ⟨_, rfl⟩
  obtain ⟨l, hll⟩ : ∃ l, l = ps[k].l := ⟨_, rfl⟩
  obtain ⟨ad, had⟩ : ∃ ad, ad = ps[k].a := ⟨_, rfl⟩
  obtain ⟨kc, hkc⟩ : ∃ kc, kc = ps[k].c := ⟨_, rfl⟩
  rw [← hx] at q0; rw [← hy] at q1; rw [← hll, ← had, ← hkc] at q2
  rw [← hll, ← had] at hat
  rw [← hll, ← had, ← hkc] at hn
  rw [← hx, ← hy, ← hll]
  rw [← hll] at hl
  clear hx hy hll had hkc
  have hcp : Calls Try.prog 29 #[.agg #[.int .i64 x, .int .i64 y, .slice ad l.length kc]] w.drew fun e w' => ∃ a' c', e = .returned (.agg #[.int .i64 x, .int .i64 y, .slice a' l.length c']) ∧ w'.ownsRow w.drew.heap.size 5 1 (.slice a' l.length c') l.length (bcells l) ∧ Below w.drew.heap.size w.drew w' := copied_any w.drew x y ad l kc (by omega) hn (hat.below (below_drewN (Below.refl _ w) 1))
  have hfin : ∀ (W w5 : World) (a' : Option Addr) (c' : Nat) (v5 : Value), Below w.heap.size w W → W.ownsRow base 5 1 (.slice a' l.length c') l.length (bcells l) → (∀ k, v5.ownBlock = some k → (Value.slice (some ⟨g, 0, none⟩) ps.length c).ownBlock = some k ∨ (W.alloc (.cells #[.int .i64 x, .int .i64 y, .slice a' l.length c'] 48)).heap.size ≤ k) → w5.ownsRow base 48 3 v5 (ps.length + 1) (pkcells ps ++ [.int .i64 x, .int .i64 y, .slice a' l.length c']) →
      (W.alloc (.cells #[.int .i64 x, .int .i64 y, .slice a' l.length c'] 48)).grownBy w5 (Value.slice (some ⟨g, 0, none⟩) ps.length c).ownBlock → NetAt (w5.setCell ⟨b, 1, none⟩ v5) base b nodes (ps ++ [⟨x, y, l, a', c'⟩]) S ∧ (Below base w (w5.setCell ⟨b, 1, none⟩ v5) ∧ Moved w (w5.setCell ⟨b, 1, none⟩ v5) b) ∧ ∃ v, w5.cell? ⟨b, 1, none⟩ = some v ∧ w5.frozen? ⟨b, 1, none⟩ = false := by
    intro W w5 a' c' v5 hb hp hat5 hown hg
    have hB := grown_fin (p := ⟨x, y, l, a', c'⟩) h1 (Nat.le_trans hbw hb.size) (hp_step h2 hb) h3 (h4.below hb) (own_below h5 hb) (fun q hq => own_below (h6 q hq) hb) hp hown hg hat5
    have hh := hp_step h2 hb
    have hzb := (blk hh).2.2
    have h5W := own_below h5 hb
    have hb5 : w5.heap[b]? = some (.cells #[.int .i64 nodes, .slice (some ⟨g, 0, none⟩) ps.length c, .map (some mb)] 67 (0, 0)) := by
      refine ((hg.block b (by rw [size_new]; omega) (fun e => ?_)).trans (hp_alloc_old hzb)).trans hh
      exact own_ne h5W hh (by decide) b (own_block h5W b e.symm) rfl
    exact ⟨hB.1, ⟨(Below.mono hb hbw).trans hB.2.1, (Moved.of_below hb (blk h2).2.2).trans hB.2.2⟩, _, (blk3 hb5).2.1, (blk3 hb5).2.2.2.2.1⟩
  have hO : ∀ W, Below w.heap.size w W → W.ownsRow base 48 3 (.slice (some ⟨g, 0, none⟩) ps.length c) ps.length (pkcells ps) := fun W hb => own_below h5 hb
  have HCP := Lib.hid hcp
  have HFIN := Lib.hid hfin
  have HO := Lib.hid hO
  have t3 : decide ((256 : Int) ≤ ps.length) = false := decide_eq_false (by omega)
  have t4 : ¬ (256 : Int) ≤ ps.length := by omega
  have t5 : decide ((k : Int) < ps.length) = true := decide_eq_true (by omega)
  have t6 : (k : Int) < ps.length := by omega
  have t7 : (0 : Int) ≤ k := by omega
  have HB1d := Lib.hid (below_drewN (Below.refl w.heap.size w) 1)
  have HB0 := Lib.hid hbw
  clear h2 h4 h5 h6 hcp hfin hO hn hat
  go_enter Try.func16, Try.ntmps16
  go_wp2_with fail
  refine HP.out.mono ?_; rintro e w1 ⟨rfl, rfl⟩
  go_wp2_with fail
  go_region_law (first | (go_simp; go_at_call 29; refine HCP.out.mono ?_; rintro e w2 ⟨pa, pc, rfl, hpb, hb2⟩; have HPB := Lib.hid (And.intro (own_mono hpb (Nat.le_trans HB0.out HB1d.out.size)) (show ∀ z, pa = some ⟨z, 0, none⟩ → w.heap.size ≤ z from fun z hz => Nat.le_trans HB1d.out.size (own_from hpb z hz).1)); have HB2 := Lib.hid (below_step HB1d.out hb2); have e1 := cell_step c1 (below_step HB1d.out hb2); have e2 : ∀ o : Obj, (w2.alloc o).cell? ⟨b, 1, none⟩ = some (.slice (some ⟨g, 0, none⟩) ps.length c) := fun o => cell_step e1 (below_new1 w2 o); clear hpb hb2) | (refine step_append_at rfl (.tmp 22) (.tmp 31) 43 rfl base 48 j0 _ 3 40 Try.underlying43 hj hy0 hy1 hy2 rfl (by decide) (.slice (some ⟨g, 0, none⟩) ps.length c) ps.length (pkcells ps) rfl ((HO.out _ HB2.out).alloc _) ⟨w2.heap.size, 0, none⟩ 1 1 [.int .i64 x, .int .i64 y, .slice pa l.length pc] rfl rfl (lie_new3 _ _ _ _ _) (by simp [Value.oneCell']) (by unfold maxLen; omega) (by omega) (by rw [size_new]; have := HB2.out.size; have := HB0.out; omega) ?_; intro v5 w5 hown hgr hat5; obtain ⟨a5, c5, rfl⟩ := own_shape hown; obtain ⟨hF1, hF2, vo, hF3, hF4⟩ := HFIN.out w2 w5 pa pc _ HB2.out HPB.out.1 hat5 hown hgr; have HF := Lib.hid (And.intro hF1 hF2); clear hF1 hF2 hown hgr hat5))
  all_goals
    go_wp2_with fail
    go_ret
    exact ⟨rfl, ⟨_, _, HF.out.1, HPB.out.2⟩, HF.out.2⟩
end Go.Proofs.Ytnnfagdhigodbaa.netf
