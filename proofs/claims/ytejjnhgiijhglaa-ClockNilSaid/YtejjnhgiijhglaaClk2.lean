/-
  Tick at a clock with one timer that is due; the laws' awake.
-/
import Derived.Test.YtejjnhgiijhglaaClk
namespace Go.Proofs.Ytejjnhgiijhglaa.clk
open Go.ChangeShapes Go.WideShapes Go.ChangeAt Go.RowKit
open Go.Maps
open Go.Proofs.Ytejjnhgiijhglaa.kit Go.Proofs.Ytejjnhgiijhglaa.mapkit
set_option linter.unusedVariables false
set_option linter.unusedSimpArgs false
set_option maxHeartbeats 1000000
set_option maxRecDepth 100000

theorem One.drewN {w : World} {base cb mb tb g cap : Nat} {now : Int} {s : ByteArray} {kl : Lit} (h : One w base cb mb tb g cap now s kl) (n : Nat) : One (w.drewN n) base cb mb tb g cap now s kl :=
  ⟨h.lob, h.lom, h.lot, h.blk, h.tm, h.q, h.cap1, h.capm, h.map, h.ne⟩

theorem infoStr : (Try.prog.info? 9).map (fun i => (i.zero, i.size, i.bytes)) = some (some (.string ByteArray.empty), 1, 16) := by kernel_rfl

theorem tick_one (w : World) (base cb mb tb g cap : Nat) (s : ByteArray) (kl : Lit) (h : One w base cb mb tb g cap 0 s kl) (hbase : base ≤ w.heap.size) (hkl : keyOf Try.prog 9 (.string s) = some kl) :
    Calls Try.prog 13 #[.pointer (some ⟨cb, 0, none⟩)] w fun e w' => (∃ b c, e = .returned (.slice (some ⟨b, 0, none⟩) 1 c) ∧ w'.cell? ⟨b, 0, none⟩ = some (.string s)) ∧ w'.cell? ⟨cb, 0, none⟩ = some (.int .i64 1) ∧ Below base w w' := by
  obtain ⟨j0, hj, hy0, hy1, hy2⟩ := info_parts infoStr
  obtain ⟨cc, cf, hzc⟩ := kit.blk h.blk
  have c0 : w.cell? ⟨cb, 0, none⟩ = some (.int .i64 0) := cc 0
  have f0 : w.frozen? ⟨cb, 0, none⟩ = false := cf 0
  obtain ⟨f, hf, hfk⟩ := h.map
  obtain ⟨es, clock, hem⟩ := hf.obj
  have hcm : mb ≠ cb := by
    rintro rfl
    rw [h.blk] at hem
    cases hem
  have h1 : One (w.setCell ⟨cb, 0, none⟩ (.int .i64 1)) base cb mb tb g cap 1 s kl := by
    refine ⟨h.lob, h.lom, h.lot, hp_set h.blk 0 _, by rw [hp_set_ne (Ne.symm h.ne)]; exact h.tm, ?_, h.cap1, h.capm, ⟨f, hf.set hcm _, hfk⟩, h.ne⟩
    by_cases e : g = cb
    · exfalso
      have := h.q
      rw [e, c0] at this
      cases this
    · rw [← h.q]
      exact World.cell?_of_block (w := w) (hp_set_ne e)
  have hB1 : Below base w (w.setCell ⟨cb, 0, none⟩ (.int .i64 1)) := (Below.refl base w).setCell (p := ⟨cb, 0, none⟩) h.lob _
  obtain ⟨w1, hw1⟩ : ∃ w1 : World, w1 = w.setCell ⟨cb, 0, none⟩ (.int .i64 1) := ⟨_, rfl⟩
  rw [← hw1] at h1 hB1
  obtain ⟨dc, df, _⟩ := kit.blk h1.blk
  have d0 : w1.cell? ⟨cb, 0, none⟩ = some (.int .i64 1) := dc 0
  have d2 : w1.cell? ⟨cb, 2, none⟩ = some (.slice (some ⟨g, 0, none⟩) 1 cap) := dc 2
  have dq := h1.q
  obtain ⟨tc, tf, _⟩ := kit.blk h1.tm
  have t0 : w1.cell? ⟨tb, 0, none⟩ = some (.string s) := tc 0
  have t1 : w1.cell? ⟨tb, 1, none⟩ = some (.int .i64 1) := tc 1
  have hs1 : base ≤ w1.heap.size := by rw [hw1, size_set]; exact hbase
  have HW1 := Lib.hid hw1
  have H1 := Lib.hid h1
  have HKL := Lib.hid hkl
  clear cc cf hf hem hfk h h1 dc df tc tf hkl hw1
  go_enter Try.func13, Try.ntmps13
  go_wp2_with fail
  rw [← HW1.out]
  refine wp_loop_rounds 2 ?_
  rw [rounds_succ]
  go_wp2_with fail
  go_quiet (fail)
  go_wp2_with fail
  refine (stop_one _ base cb mb tb g cap 1 s kl (H1.out.drewN nq) hs1 HKL.out).mono ?_; rintro e w2 ⟨rfl, hG, hB2⟩
  have hBw2 : Below base w w2 := hB1.trans ((below_drewN (Below.refl base w1) nq).trans hB2)
  have HG := Lib.hid hG
  clear hG c0 f0 d0 d2 dq t0 t1 hB2
  go_wp2_with (at_builtin; refine wpl_append rfl (.tmp 48) (.tmp 50) 31 rfl w2.heap.size 9 j0 _ 1 16 Try.underlying31 hj hy0 hy1 hy2 rfl (by decide) (.slice none 0 0) 0 [] rfl (World.ownsRow_nil _ _ _ _) (some ⟨w2.heap.size, 0, none⟩) 1 1 [.string s] rfl (by simp) rfl ?hL (by simp [Value.oneCell']) (by unfold maxLen; omega) (by omega) ?hB ?_)
  case hL => exact .inr ⟨_, 0, rfl, by rw [size_new]; omega, fun i hi => by rw [Nat.zero_add, (kit.blk (hp_alloc_new _ _)).1]; match i, hi with | 0, _ => rfl⟩
  case hB => rw [size_new]; omega
  intro v' w3 hown hgr
  have hb3 : Below w2.heap.size w2 w3 := (below_new1 w2 _).grown hgr (by rw [size_new]; omega) (fun j hj => by simp [Value.ownBlock] at hj)
  have hG3 := hp_step HG.out hb3
  obtain ⟨b, c, cur, rfl, hb, hh, hc1, hc2, _, hx⟩ : ∃ b c cur, v' = .slice (some ⟨b, 0, none⟩) 1 c ∧ w2.heap.size ≤ b ∧ w3.heap[b]? = some (.cells cur 9 (0, 0)) ∧ 1 ≤ c ∧ c ≤ maxLen ∧ cur.size = c * 1 ∧ cur.toList.take (1 * 1) = [.string s] := by
    rcases hown.2 with ⟨_, h⟩ | h
    · cases h
    · exact h
  have hbc : w3.cell? ⟨b, 0, none⟩ = some (.string s) := by
    rw [(kit.blk hh).1 0, ← Array.getElem?_toList]
    have := congrArg (fun l => l[0]?) hx
    simpa [List.getElem?_take] using this
  have e0 : w3.cell? ⟨cb, 0, none⟩ = some (.int .i64 1) := (kit.blk hG3).1 0
  have e2 : w3.cell? ⟨cb, 2, none⟩ = some (.slice (some ⟨g, 0, none⟩) 0 cap) := (kit.blk hG3).1 2
  have hw2 := hBw2.size
  have hBw3 : Below base w w3 := hBw2.trans (Below.mono hb3 (by have := hBw2.size; omega))
  have HE : Hid (w3.cell? ⟨b, 0, none⟩ = some (.string s) ∧ w3.cell? ⟨cb, 0, none⟩ = some (.int .i64 1) ∧ Below base w w3) := ⟨hbc, e0, hBw3⟩
  clear hown hgr hb3 hG3 hh hx hbc
  go_wp2_with fail
  rw [rounds_succ]
  go_wp2_with fail
  go_quiet (fail)
  go_wp2_with fail
  exact bodyPost_ret (v := .slice (some ⟨b, 0, none⟩) 1 c) (by simp [results, Try.results13, go_sem]) rfl ⟨⟨b, c, rfl, HE.out.1⟩, HE.out.2.1, below_drewN HE.out.2.2 _⟩
end Go.Proofs.Ytejjnhgiijhglaa.clk
