/-
  The laws' awake: a log of strings from 3 on, one place filled.
-/
import Derived.Test.YtpnkohjppbgiaaaKit
import Derived.Test.YtpnkohjppbgiaaaProg
import Derived.Lib.Hide
import Derived.Deep.RegionWith
import Derived.Deep.QuietTactic
import Derived.BigQuiet
namespace Go.Proofs.Ytpnkohjppbgiaaa.slota
open Go.ChangeShapes Go.WideShapes Go.ChangeAt Go.RowKit
open Go.Proofs.Ytpnkohjppbgiaaa.kit
set_option linter.unusedVariables false
set_option linter.unusedSimpArgs false
set_option maxHeartbeats 1000000
set_option maxRecDepth 100000

theorem new_ok (w : World) : Calls Try.prog 36 #[.int .i64 3, .int .i64 4] w fun e w' => e = .returned (.pointer (some ⟨w.heap.size, 0, none⟩)) ∧ w' = w.alloc (.cells #[.int .i64 3, .int .i64 4, .slice none 0 0] 102) := by
  go_enter Try.func36, Try.ntmps36
  go_wp2_with fail
  go_ret
  exact ⟨rfl, rfl⟩

theorem top_ok (w : World) (b : Nat) (f k : Int) (a : Option Addr) (n c : Nat) (h0 : w.cell? ⟨b, 0, none⟩ = some (.int .i64 f)) (h2 : w.cell? ⟨b, 2, none⟩ = some (.slice a n c)) (hf : 0 ≤ f) (hf2 : f ≤ 1099511627776) (hn : n ≤ 1024) :
    Calls Try.prog 50 #[.pointer (some ⟨b, 0, none⟩)] w fun e w' => e = .returned (.int .i64 (f + n)) ∧ Below w.heap.size w w' := by
  have hw : IntKind.i64.wrap (f + n) = f + n := IntWalk.i64_in _ (by omega)
  go_enter Try.func50, Try.ntmps50
  go_wp2_with fail
  go_quiet (fail)
  go_wp2_with fail
  go_ret
  exact ⟨rfl, below_drewN (Below.refl _ _) _⟩

theorem first_ok (w : World) (b : Nat) (f : Int) (h0 : w.cell? ⟨b, 0, none⟩ = some (.int .i64 f)) : Calls Try.prog 48 #[.pointer (some ⟨b, 0, none⟩)] w fun e w' => e = .returned (.int .i64 f) ∧ w = w' := by
  go_enter Try.func48, Try.ntmps48
  go_wp2_with fail
  go_ret
  exact ⟨rfl, rfl⟩

theorem next_ok (w : World) (b g c : Nat) (s : ByteArray) (n : Nat) (f : Int) (h0 : w.cell? ⟨b, 0, none⟩ = some (.int .i64 f)) (h2 : w.cell? ⟨b, 2, none⟩ = some (.slice (some ⟨g, 0, none⟩) n c)) (hn : 0 < n) (hg0 : w.cell? ⟨g, 0, none⟩ = some (.string s)) (hg1 : w.cell? ⟨g, 1, none⟩ = some (.bool false)) (hf : 0 ≤ f) (hf2 : f ≤ 1099511627776) :
    Calls Try.prog 49 #[.pointer (some ⟨b, 0, none⟩)] w fun e w' => e = .returned (.int .i64 f) ∧ Below w.heap.size w w' := by
  have hbz : b < w.heap.size := cell_lt h0
  have hn2 : (0 : Int) < (n : Int) := by omega
  go_enter Try.func49, Try.ntmps49
  go_wp2_with fail
  refine wp_loop_rounds 1 ?_
  rw [rounds_succ]
  go_wp2_with fail
  go_ret
  exact ⟨rfl, below_new1 _ _⟩

theorem get_ok (w : World) (b g c : Nat) (s : ByteArray) (h0 : w.cell? ⟨b, 0, none⟩ = some (.int .i64 3)) (h2 : w.cell? ⟨b, 2, none⟩ = some (.slice (some ⟨g, 0, none⟩) 2 c)) (hg2 : w.cell? ⟨g, 2, none⟩ = some (.string s)) (hg3 : w.cell? ⟨g, 3, none⟩ = some (.bool true)) :
    Calls Try.prog 38 #[.pointer (some ⟨b, 0, none⟩), .int .i64 4] w fun e w' => e = .returned (.tuple #[.string s, .bool true]) ∧ Below w.heap.size w w' := by
  have hbz : b < w.heap.size := cell_lt h0
  have hgz : g < w.heap.size := cell_lt hg2
  go_enter Try.func38, Try.ntmps38
  go_wp2_with fail
  refine (top_ok w b 3 0 _ 2 c h0 h2 (by omega) (by omega) (by omega)).mono ?_; rintro e w1 ⟨rfl, hb1⟩
  have k0 := cell_step h0 hb1
  have k2 := cell_step h2 hb1
  have j2 := cell_step hg2 hb1
  have j3 := cell_step hg3 hb1
  have HB := Lib.hid hb1
  have z1 := cell_lt k0
  have z2 := cell_lt j2
  clear hb1 h0 h2 hg2 hg3
  go_wp2_with fail
  go_region
  go_wp2_with fail
  go_quiet (fail)
  go_wp2_with fail
  exact bodyPost_ret (v := .tuple #[.string s, .bool true]) (by simp [results, Try.results38, go_sem]) rfl ⟨rfl, below_drewN (below_drewN (HB.out.alloc HB.out.size _) 1) _⟩

theorem infoCell : (Try.prog.info? 107).map (fun i => (i.zero, i.size, i.bytes)) = some (some (.agg #[.string ByteArray.empty, .bool false]), 2, 24) := by kernel_rfl

/-- A log from 3 on, its second place filled. -/
def Filled (w : World) (b g : Nat) (s : ByteArray) : Prop :=
  w.cell? ⟨b, 0, none⟩ = some (.int .i64 3) ∧ (∃ c, w.cell? ⟨b, 2, none⟩ = some (.slice (some ⟨g, 0, none⟩) 2 c)) ∧ (∃ t, w.cell? ⟨g, 0, none⟩ = some (.string t)) ∧ w.cell? ⟨g, 1, none⟩ = some (.bool false) ∧ w.cell? ⟨g, 2, none⟩ = some (.string s) ∧ w.cell? ⟨g, 3, none⟩ = some (.bool true)

theorem own_of {w w' : World} {base : Nat} {e : TypeId} {size n : Nat} {g cap : Nat} {xs : List Value} (h : w.ownsRow base e size (.slice (some ⟨g, 0, none⟩) n cap) n xs) (hk : w'.heap[g]? = w.heap[g]?) : w'.ownsRow base e size (.slice (some ⟨g, 0, none⟩) n cap) n xs := by
  obtain ⟨h1, h2⟩ := h
  refine ⟨h1, ?_⟩
  rcases h2 with ⟨h2, _⟩ | ⟨g', cap', cur, hv, hg, hh, r⟩
  · cases h2
  · have e1 : g' = g := by simp only [Value.slice.injEq, Option.some.injEq, Addr.mk.injEq, and_true, true_and] at hv; exact hv.1.symm
    subst e1
    exact .inr ⟨g', cap', cur, hv, hg, hk.trans hh, r⟩

theorem put_ok (w : World) (b base : Nat) (s : ByteArray) (hbase : base ≤ b) (hbw : base ≤ w.heap.size) (hb : w.heap[b]? = some (.cells #[.int .i64 3, .int .i64 4, .slice none 0 0] 102 (0, 0))) :
    Calls Try.prog 42 #[.pointer (some ⟨b, 0, none⟩), .int .i64 4, .string s] w fun e w' => e = .returned (.int .i64 0) ∧ (∃ g, Filled w' b g s) ∧ Below base w w' := by
  obtain ⟨j0, hj, hy0, hy1, hy2⟩ := info_parts infoCell
  obtain ⟨c0, c1, c2, f0, f1, f2, hz⟩ := blk3 hb
  have HB0 := Lib.hid hb
  clear hb
  go_enter Try.func42, Try.ntmps42
  go_wp2_with fail
  go_quiet (fail)
  go_wp2_with fail
  refine wp_loop_rounds 3 ?_
  rw [rounds_succ]
  go_wp2_with fail
  refine (top_ok _ b 3 0 _ 0 0 (by exact c0) (by exact c2) (by omega) (by omega) (by omega)).mono ?_; rintro e w1 ⟨rfl, hb1⟩
  rw [show (3 : Int) + ((0 : Nat) : Int) = 3 from rfl]
  have hbw1 : Below w.heap.size w w1 := below_step (below_drewN (Below.refl _ w) nq) hb1
  have hn1 := hp_step HB0.out hbw1
  obtain ⟨d0, d1, d2, g0, g1, g2, z1⟩ := blk3 hn1
  have HN1 := Lib.hid hn1
  have HBW1 := Lib.hid hbw1
  clear c0 c1 c2 f0 f1 f2 hb1 hn1 hbw1
  go_wp2_with (at_builtin; refine wpl_append rfl (.tmp 37) (.tmp 39) 100 rfl w1.heap.size 107 j0 _ 2 24 Try.underlying100 hj hy0 hy1 hy2 rfl (by decide) (.slice none 0 0) 0 [] rfl (World.ownsRow_nil _ _ _ _) (some ⟨w1.heap.size, 0, none⟩) 1 1 [.string ByteArray.empty, .bool false] rfl (by simp) rfl ?hL (by simp [Value.oneCell']) (by unfold maxLen; omega) (by omega) ?hB ?_)
  case hL => exact .inr ⟨_, 0, rfl, by rw [size_new]; omega, fun i hi => by rw [Nat.zero_add, (blk (hp_alloc_new _ _)).1]; match i, hi with | 0, _ => rfl | 1, _ => rfl⟩
  case hB => rw [size_new]; omega
  intro v2 w2 hown hgr
  have hb2 : Below w1.heap.size w1 w2 := (below_new1 w1 _).grown hgr (by rw [size_new]; omega) (fun j hj => by simp [Value.ownBlock] at hj)
  obtain ⟨g, cap, cur, rfl, hg, hh, hc1, hc2, _, _⟩ : ∃ g cap cur, v2 = .slice (some ⟨g, 0, none⟩) 1 cap ∧ w1.heap.size ≤ g ∧ w2.heap[g]? = some (.cells cur 107 (0, 0)) ∧ 1 ≤ cap ∧ cap ≤ maxLen ∧ cur.size = cap * 2 ∧ cur.toList.take (1 * 2) = [.string ByteArray.empty, .bool false] := by
    rcases hown.2 with ⟨_, h⟩ | h
    · cases h
    · exact h
  have hn2 := hp_step HN1.out hb2
  have hBw2 : Below w.heap.size w w2 := below_step HBW1.out hb2
  have hgb : g ≠ b := by omega
  obtain ⟨e0, e1, e2, x0, x1, x2, z2⟩ := blk3 hn2
  have hn3 : (w2.setCell ⟨b, 2, none⟩ (.slice (some ⟨g, 0, none⟩) 1 cap)).heap[b]? = some (.cells #[.int .i64 3, .int .i64 4, .slice (some ⟨g, 0, none⟩) 1 cap] 102 (0, 0)) := hp_set hn2 2 _
  have ho3 : (w2.setCell ⟨b, 2, none⟩ (.slice (some ⟨g, 0, none⟩) 1 cap)).ownsRow w1.heap.size 107 2 (.slice (some ⟨g, 0, none⟩) 1 cap) 1 [.string ByteArray.empty, .bool false] := own_of hown (hp_set_ne hgb)
  have hB3 : Below base w (w2.setCell ⟨b, 2, none⟩ (.slice (some ⟨g, 0, none⟩) 1 cap)) := (Below.mono hBw2 hbw).setCell (p := ⟨b, 2, none⟩) hbase _
  obtain ⟨w3, hw3⟩ : ∃ w3 : World, w3 = w2.setCell ⟨b, 2, none⟩ (.slice (some ⟨g, 0, none⟩) 1 cap) := ⟨_, rfl⟩
  rw [← hw3] at hn3 ho3 hB3
  have hs3 : w1.heap.size ≤ w3.heap.size := by rw [hw3, size_set]; exact hb2.size
  have HW3 := Lib.hid hw3
  have HN3 := Lib.hid hn3
  have HO3 := Lib.hid ho3
  have HB3 := Lib.hid hB3
  clear hn2 hn3 ho3 hB3 hw3 hown hgr hb2 hBw2 d0 d1 d2 g0 g1 g2 hh
  go_wp2_with fail
  rw [← HW3.out]
  rw [rounds_succ]
  clear e0 e1 e2 x0 x1 x2
  obtain ⟨c0, c1, c2, f0, f1, f2, hz3⟩ := blk3 HN3.out
  go_wp2_with fail
  refine (top_ok _ b 3 0 _ 1 cap c0 c2 (by omega) (by omega) (by omega)).mono ?_; rintro e w4 ⟨rfl, hb4⟩
  rw [show (3 : Int) + ((1 : Nat) : Int) = 4 from rfl]
  have hn4 := hp_step HN3.out hb4
  obtain ⟨d0, d1, d2, y0, y1, y2, z4⟩ := blk3 hn4
  have hgl : g < w3.heap.size := (HO3.out.lt g rfl).2
  have ho4 : w4.ownsRow w1.heap.size 107 2 (.slice (some ⟨g, 0, none⟩) 1 cap) 1 [.string ByteArray.empty, .bool false] := own_of HO3.out (hb4.block g hgl)
  have HN4 := Lib.hid hn4
  have HO4 := Lib.hid ho4
  have hs4 := hb4.size
  have hB4 : Below base w w4 := HB3.out.trans (Below.mono hb4 (Nat.le_trans hbw (by have := HBW1.out.size; omega)))
  have HB4 := Lib.hid hB4
  clear c0 c1 c2 f0 f1 f2 hn4 ho4 hb4 hB4
  go_wp2_with (at_builtin; refine wpl_append rfl (.tmp 37) (.tmp 39) 100 rfl w1.heap.size 107 j0 _ 2 24 Try.underlying100 hj hy0 hy1 hy2 rfl (by decide) (.slice (some ⟨g, 0, none⟩) 1 cap) 1 [.string ByteArray.empty, .bool false] rfl (HO4.out.alloc _) (some ⟨w4.heap.size, 0, none⟩) 1 1 [.string ByteArray.empty, .bool false] rfl (by simp) rfl ?hL (by simp [Value.oneCell']) (by unfold maxLen; omega) (by omega) ?hB ?_)
  case hL => exact .inr ⟨_, 0, rfl, by rw [size_new]; omega, fun i hi => by rw [Nat.zero_add, (blk (hp_alloc_new _ _)).1]; match i, hi with | 0, _ => rfl | 1, _ => rfl⟩
  case hB => rw [size_new]; omega
  intro v5 w5 hown hgr
  have hn5 : w5.heap[b]? = some (.cells #[.int .i64 3, .int .i64 4, .slice (some ⟨g, 0, none⟩) 1 cap] 102 (0, 0)) :=
    (hgr.block b (blk3 (hp_new HN4.out)).2.2.2.2.2.2 (fun e => hgb (by simpa [Value.ownBlock] using e.symm))).trans (hp_new HN4.out)
  obtain ⟨g2, cap2, cur2, rfl, hg2, hh2, hd1, hd2, hd3, hx2⟩ : ∃ g2 cap2 cur2, v5 = .slice (some ⟨g2, 0, none⟩) 2 cap2 ∧ w1.heap.size ≤ g2 ∧ w5.heap[g2]? = some (.cells cur2 107 (0, 0)) ∧ 2 ≤ cap2 ∧ cap2 ≤ maxLen ∧ cur2.size = cap2 * 2 ∧ cur2.toList.take (2 * 2) = [.string ByteArray.empty, .bool false, .string ByteArray.empty, .bool false] := by
    rcases hown.2 with ⟨_, h⟩ | h
    · cases h
    · exact h
  have hB5 : Below base w w5 := (HB4.out.alloc (by have := HB4.out.size; omega) _).grown hgr (by rw [size_new]; have := HBW1.out.size; omega) (fun j hj => by simp [Value.ownBlock] at hj; have := HBW1.out.size; omega)
  have hgb2 : g2 ≠ b := by omega
  have hcu : ∀ i, i < 4 → w5.cell? ⟨g2, i, none⟩ = ([.string ByteArray.empty, .bool false, .string ByteArray.empty, .bool false] : List Value)[i]? := by
    intro i hi
    rw [(blk hh2).1 i, ← hx2, List.getElem?_take, if_pos hi, Array.getElem?_toList]
  obtain ⟨w6, hw6⟩ : ∃ w6 : World, w6 = w5.setCell ⟨b, 2, none⟩ (.slice (some ⟨g2, 0, none⟩) 2 cap2) := ⟨_, rfl⟩
  have hn6 : w6.heap[b]? = some (.cells #[.int .i64 3, .int .i64 4, .slice (some ⟨g2, 0, none⟩) 2 cap2] 102 (0, 0)) := by rw [hw6]; exact hp_set hn5 2 _
  have hh6 : w6.heap[g2]? = some (.cells cur2 107 (0, 0)) := by rw [hw6]; exact (hp_set_ne hgb2).trans hh2
  have hB6 : Below base w w6 := by rw [hw6]; exact hB5.setCell (p := ⟨b, 2, none⟩) hbase _
  obtain ⟨e0, e1, e2, x0, x1, x2, z5⟩ := blk3 hn5
  have HW6 := Lib.hid hw6
  have HN6 := Lib.hid hn6
  have HH6 := Lib.hid hh6
  have HB6 := Lib.hid hB6
  have HCU : Hid (∀ i, i < 4 → cur2[i]? = ([.string ByteArray.empty, .bool false, .string ByteArray.empty, .bool false] : List Value)[i]?) := fun i hi => by rw [← hcu i hi, (blk hh2).1 i]
  clear hw6 hn6 hh6 hB6 hB5 hn5 hown hgr hh2 hx2 hcu d0 d1 d2 y0 y1 y2
  go_wp2_with fail
  rw [← HW6.out]
  rw [rounds_succ]
  clear e0 e1 e2 x0 x1 x2
  obtain ⟨c0, c1, c2, f0, f1, f2, hz6⟩ := blk3 HN6.out
  go_wp2_with fail
  refine (top_ok _ b 3 0 _ 2 cap2 c0 c2 (by omega) (by omega) (by omega)).mono ?_; rintro e w7 ⟨rfl, hb7⟩
  rw [show (3 : Int) + ((2 : Nat) : Int) = 5 from rfl]
  have hn7 := hp_step HN6.out hb7
  have hh7 := hp_step HH6.out hb7
  have hB7 : Below base w w7 := HB6.out.trans (Below.mono hb7 (by have := HB6.out.size; omega))
  obtain ⟨d0, d1, d2, _, _, _, z7⟩ := blk3 hn7
  obtain ⟨q, qf, qz⟩ := blk hh7
  have r2 : w7.cell? ⟨g2, 2, none⟩ = some (.string ByteArray.empty) := by rw [q 2]; exact HCU.out 2 (by omega)
  have r3 : w7.cell? ⟨g2, 3, none⟩ = some (.bool false) := by rw [q 3]; exact HCU.out 3 (by omega)
  have t2 := qf 2
  have t3 := qf 3
  have r0 : w7.cell? ⟨g2, 0, none⟩ = some (.string ByteArray.empty) := by rw [q 0]; exact HCU.out 0 (by omega)
  have r1 : w7.cell? ⟨g2, 1, none⟩ = some (.bool false) := by rw [q 1]; exact HCU.out 1 (by omega)
  have hh8 : ((w7.setCell ⟨g2, 2, none⟩ (.string s)).setCell ⟨g2, 3, none⟩ (.bool true)).heap[g2]? = some (.cells ((cur2.setIfInBounds 2 (.string s)).setIfInBounds 3 (.bool true)) 107 (0, 0)) := hp_set (hp_set hh7 2 _) 3 _
  have hn8 : ((w7.setCell ⟨g2, 2, none⟩ (.string s)).setCell ⟨g2, 3, none⟩ (.bool true)).heap[b]? = some (.cells #[.int .i64 3, .int .i64 4, .slice (some ⟨g2, 0, none⟩) 2 cap2] 102 (0, 0)) := (hp_set_ne (Ne.symm hgb2)).trans ((hp_set_ne (Ne.symm hgb2)).trans hn7)
  have hcs : 4 ≤ cur2.size := by omega
  have hF : Filled ((w7.setCell ⟨g2, 2, none⟩ (.string s)).setCell ⟨g2, 3, none⟩ (.bool true)) b g2 s := by
    obtain ⟨p0, p1, p2, _⟩ := blk3 hn8
    obtain ⟨y, _, _⟩ := blk hh8
    refine ⟨p0, ⟨_, p2⟩, ⟨ByteArray.empty, ?_⟩, ?_, ?_, ?_⟩
    · rw [y 0]; rw [q 0] at r0; simpa [Array.getElem?_setIfInBounds] using r0
    · rw [y 1]; rw [q 1] at r1; simpa [Array.getElem?_setIfInBounds] using r1
    · rw [y 2]; simp [Array.getElem?_setIfInBounds]; omega
    · rw [y 3]; simp [Array.getElem?_setIfInBounds]; omega
  have hB8 : Below base w ((w7.setCell ⟨g2, 2, none⟩ (.string s)).setCell ⟨g2, 3, none⟩ (.bool true)) := (hB7.setCell (p := ⟨g2, 2, none⟩) (by have := HBW1.out.size; show base ≤ g2; omega) _).setCell (p := ⟨g2, 3, none⟩) (by have := HBW1.out.size; show base ≤ g2; omega) _
  have HF8 := Lib.hid hF
  have HB8 := Lib.hid hB8
  clear hF hB8 hh8 hn8 hh7 hn7 hb7 hB7 q qf r0 r1 c0 c1 c2 f0 f1 f2
  go_wp2_with fail
  go_region
  go_wp2_with fail
  go_ret
  exact ⟨rfl, ⟨g2, HF8.out⟩, below_drewN HB8.out 1⟩
end Go.Proofs.Ytpnkohjppbgiaaa.slota
