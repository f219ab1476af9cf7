/-
  A net in memory: Deliver and Drop.
-/
import Derived.Test.YtnnfagdhigodbaaKit
import Derived.Test.YtnnfagdhigodbaaKit2
import Derived.Test.YtnnfagdhigodbaaBytes
import Derived.Test.YtnnfagdhigodbaaNetC
import Derived.Test.YtnnfagdhigodbaaNetG
import Derived.Test.YtnnfagdhigodbaaNetS
import Derived.Test.YtnnfagdhigodbaaNetT
import Derived.Test.YtnnfagdhigodbaaNetD
import Derived.Test.YtnnfagdhigodbaaProg
import Derived.Lib.Hide
import Derived.Deep.RegionWith
import Derived.Deep.RegionLaw
import Derived.Deep.QuietTactic
import Derived.BigQuiet
namespace Go.Proofs.Ytnnfagdhigodbaa.nete
open Go.ChangeShapes Go.WideShapes Go.ChangeAt Go.RowKit
open Go.Proofs.Ytnnfagdhigodbaa.kit Go.Proofs.Ytnnfagdhigodbaa.byt Go.Proofs.Ytnnfagdhigodbaa.netc Go.Proofs.Ytnnfagdhigodbaa.netg Go.Proofs.Ytnnfagdhigodbaa.nets Go.Proofs.Ytnnfagdhigodbaa.nett Go.Proofs.Ytnnfagdhigodbaa.netd
set_option linter.unusedVariables false
set_option linter.unusedSimpArgs false
set_option maxHeartbeats 1000000
set_option maxRecDepth 100000

theorem own_ptr {w : World} {base : Nat} {e : TypeId} {size n c : Nat} {a : Option Addr} {xs : List Value} (h : w.ownsRow base e size (.slice a n c) n xs) (hn : 0 < n) : ∃ g, a = some ⟨g, 0, none⟩ := by
  rcases h.2 with ⟨hz, h0⟩ | ⟨g', c', cur, e', _⟩
  · omega
  · simp only [Value.slice.injEq] at e'
    exact ⟨g', e'.1⟩
theorem pk_cells {w : World} {base : Nat} {g c : Nat} {ps : List Pkt} (h : w.ownsRow base 48 3 (.slice (some ⟨g, 0, none⟩) ps.length c) ps.length (pkcells ps)) {i : Nat} (hi : i < ps.length) :
    w.cell? ⟨g, i * 3, none⟩ = some (.int .i64 ps[i].f) ∧ w.cell? ⟨g, i * 3 + 1, none⟩ = some (.int .i64 ps[i].t) ∧ w.cell? ⟨g, i * 3 + 2, none⟩ = some (.slice ps[i].a ps[i].l.length ps[i].c) := by
  obtain ⟨hx, hz | ⟨g', c', cur, e', hg, hh, hc, hm, hsz, hcur⟩⟩ := h
  · simp at hz
  simp only [Value.slice.injEq, Option.some.injEq, Addr.mk.injEq, and_true, true_and] at e'
  obtain ⟨rfl, rfl⟩ := e'
  have hl1 : (pkcells (ps.take i)).length = i * 3 := by rw [pkcells_len, List.length_take, Nat.min_eq_left (by omega)]
  have hsp := pkcells_split hi
  have hget : ∀ j, j < 3 → w.cell? ⟨g, i * 3 + j, none⟩ = (ps[i].cells)[j]? := by
    intro j hj
    rw [(blk hh).1, ← Array.getElem?_toList, ← List.getElem?_take_of_lt (show i * 3 + j < ps.length * 3 by omega), hcur, hsp, List.getElem?_append_right (by omega), hl1, List.getElem?_append_left (by show _ < 3; omega)]
    congr 1; omega
  exact ⟨hget 0 (by omega), hget 1 (by omega), hget 2 (by omega)⟩

/-- What Delete and the store of the new slice leave. -/
theorem erase_fin {w w5 W : World} {base b mb g i : Nat} {nodes : Int} {ps : List Pkt} {S : Cuts} {c : Nat} (h1 : base ≤ b) (h2 : w.heap[b]? = some (.cells #[.int .i64 nodes, .slice (some ⟨g, 0, none⟩) ps.length c, .map (some mb)] 67 (0, 0))) (h3 : base ≤ mb) (h4 : CutAt w mb S) (h5 : w.ownsRow base 48 3 (.slice (some ⟨g, 0, none⟩) ps.length c) ps.length (pkcells ps))
    (h6 : ∀ p ∈ ps, Body w base p) (hi : i < ps.length) (hE : w5.ownsRow base 48 3 (.slice (some ⟨g, 0, none⟩) (ps.length - 1) c) (ps.length - 1) (pkcells (ps.eraseIdx i)))
    (hb5 : W.heap[b]? = some (.cells #[.int .i64 nodes, .slice (some ⟨g, 0, none⟩) (ps.length - 1) c, .map (some mb)] 67 (0, 0))) (hg5 : W.heap[g]? = w5.heap[g]?) (hk : ∀ k, k < w.heap.size → k ≠ g → k ≠ b → W.heap[k]? = w.heap[k]?) :
    NetAt W base b nodes (ps.eraseIdx i) S ∧ (∀ p ∈ ps, Body W base p) := by
  have hgb : b ≠ g := fun e => own_ne h5 h2 (by decide) g rfl e.symm
  obtain ⟨es, cl, hm, hm2, hm3⟩ := h4
  have hbm : mb ≠ b := by rintro rfl; rw [h2] at hm; simp at hm
  have hgm : mb ≠ g := fun e => own_nm h5 hm g rfl e.symm
  have hbody : ∀ p ∈ ps, Body W base p := by
    intro p hp
    refine own_kept (h6 p hp) (fun k hk' => ?_)
    obtain ⟨cur, hcur⟩ := own_heap (h6 p hp) k hk'
    exact hk k (own_from (h6 p hp) k hk').2 (fun e => own_ne h5 hcur (by decide) g rfl e.symm) (own_ne (h6 p hp) h2 (by decide) k hk')
  have hl : (ps.eraseIdx i).length = ps.length - 1 := List.length_eraseIdx_of_lt hi
  refine ⟨⟨h1, ⟨some ⟨g, 0, none⟩, c, mb, ?_, h3, ⟨es, cl, (hk mb (Array.getElem?_eq_some_iff.1 hm).1 hgm hbm).trans hm, hm2, hm3⟩, ?_⟩, fun p hp => hbody p (List.mem_of_mem_eraseIdx hp)⟩, hbody⟩
  · rw [hl]
    exact hb5
  · rw [hl]
    refine own_kept hE (fun k hk' => ?_)
    simp only [Option.some.injEq, Addr.mk.injEq, and_true] at hk'
    obtain ⟨rfl, _⟩ := hk'
    exact hg5

theorem deliver_out (w : World) (base b : Nat) (nodes i : Int) (ps : List Pkt) (S : Cuts) (h : NetAt w base b nodes ps S) (hi : ¬ (0 ≤ i ∧ i < ps.length)) : Calls Try.prog 23 #[.pointer (some ⟨b, 0, none⟩), .int .i64 i] w fun e w' => e = .returned (.tuple #[.agg #[.int .i64 0, .int .i64 0, .slice none 0 0], .int .i64 60]) ∧ Below w.heap.size w w' := by
  have hP := fun W (hb : Below w.heap.size w W) => place_out W base b nodes i ps S (h.below hb) hi
  have HP := Lib.hid hP
  clear hP
  obtain ⟨hn1, hs1⟩ : ∃ _ : True, Below w.heap.size w (w.alloc (.cells #[.int .i64 0, .int .i64 0, .slice none 0 0] 48)) := ⟨trivial, below_new1 _ _⟩
  have hnew := hp_alloc_new w (.cells #[.int .i64 0, .int .i64 0, .slice none 0 0] 48)
  obtain ⟨c0, c1, c2, f0, f1, f2, hz⟩ := blk3 hnew
  have HS := Lib.hid hs1
  clear hnew hs1
  go_enter Try.func23, Try.ntmps23
  go_wp2_with fail
  refine (HP.out _ HS.out).mono ?_; rintro e w1 ⟨rfl, rfl⟩
  go_wp2_with fail
  exact bodyPost_ret (v := .tuple #[.agg #[.int .i64 0, .int .i64 0, .slice none 0 0], .int .i64 60]) (by simp [results, Try.results23, go_sem, c0, c1, c2, Result.andThen]) rfl ⟨rfl, HS.out⟩

theorem deliver_in (w : World) (base b k : Nat) (nodes : Int) (ps : List Pkt) (S : Cuts) (h : NetAt w base b nodes ps S) (hbw : base ≤ w.heap.size) (hk : k < ps.length) : Calls Try.prog 23 #[.pointer (some ⟨b, 0, none⟩), .int .i64 k] w fun e w' => e = .returned (.tuple #[ps[k].val, .int .i64 0]) ∧ NetAt w' base b nodes (ps.eraseIdx k) S ∧ Body w' base ps[k] ∧ Below base w w' ∧ Moved w w' b := by
  have hP := fun W (hb : Below w.heap.size w W) => place_in W base b nodes k ps S (h.below hb) (by omega) (by omega)
  obtain ⟨h1, ⟨a, c, mb, h2, h3, h4, h5⟩, h6⟩ := h
  obtain ⟨g, rfl⟩ := own_ptr h5 (by omega)
  obtain ⟨c0, c1, c2, f0, f1, f2, hz⟩ := blk3 h2
  obtain ⟨q0, q1, q2⟩ := pk_cells h5 hk
  have hgs : g < w.heap.size := (own_from h5 g rfl).2
  have hD := fun W (hb : Below w.heap.size w W) => erase_any W base g k c ps (own_below h5 hb) hk
  have hgb : b ≠ g := fun e => own_ne h5 h2 (by decide) g rfl e.symm
  have hcap : ps.length ≤ maxLen := by
    rcases h5.2 with ⟨hz0, _⟩ | ⟨g', cap, cur, e', hgb, hh, hc', hm', _⟩
    · simp at hz0
    · omega
  have hF : ∀ w5, Erased ((w.alloc (.cells #[.int .i64 0, .int .i64 0, .slice none 0 0] 48)).alloc (.cells #[.int .i64 ps[k].f, .int .i64 ps[k].t, .slice ps[k].a ps[k].l.length ps[k].c] 48)) w5 base g ps k c →
      w5.heap[b]? = w.heap[b]? ∧ w5.heap[w.heap.size]? = some (.cells #[.int .i64 0, .int .i64 0, .slice none 0 0] 48 (0, 0)) ∧ w5.heap[w.heap.size + 1]? = some (.cells #[.int .i64 ps[k].f, .int .i64 ps[k].t, .slice ps[k].a ps[k].l.length ps[k].c] 48 (0, 0)) ∧ w5.heap.size = w.heap.size + 1 + 1 ∧ Below base w w5 ∧
      ∃ WF : World, WF = ((((w5.setCell ⟨b, 1, none⟩ (.slice (some ⟨g, 0, none⟩) (ps.length - 1) c)).setCell ⟨w.heap.size, 0, none⟩ (.int .i64 ps[k].f)).setCell ⟨w.heap.size, 1, none⟩ (.int .i64 ps[k].t)).setCell ⟨w.heap.size, 2, none⟩ (.slice ps[k].a ps[k].l.length ps[k].c)) ∧
        WF.heap[w.heap.size]? = some (.cells #[.int .i64 ps[k].f, .int .i64 ps[k].t, .slice ps[k].a ps[k].l.length ps[k].c] 48 (0, 0)) ∧ NetAt WF base b nodes (ps.eraseIdx k) S ∧ (∀ p ∈ ps, Body WF base p) ∧ Below base w WF ∧ Moved w WF b := by
    intro w5 hE
    have hn2 := new2 w (.cells #[.int .i64 0, .int .i64 0, .slice none 0 0] 48) (.cells #[.int .i64 ps[k].f, .int .i64 ps[k].t, .slice ps[k].a ps[k].l.length ps[k].c] 48)
    have hB2 := below_new2 w (.cells #[.int .i64 0, .int .i64 0, .slice none 0 0] 48) (.cells #[.int .i64 ps[k].f, .int .i64 ps[k].t, .slice ps[k].a ps[k].l.length ps[k].c] 48)
    have r0 := (hE.others w.heap.size (by omega)).trans hn2.1
    have r1 := (hE.others (w.heap.size + 1) (by omega)).trans hn2.2.1
    have r2 := (hE.others b hgb).trans (hp_step h2 hB2)
    have hs := hE.size.trans hn2.2.2
    have hb0 : Below base w w5 := (Below.mono hB2 hbw).trans hE.below
    have hbs : b ≠ w.heap.size := by omega
    have hf0 : ((((w5.setCell ⟨b, 1, none⟩ (.slice (some ⟨g, 0, none⟩) (ps.length - 1) c)).setCell ⟨w.heap.size, 0, none⟩ (.int .i64 ps[k].f)).setCell ⟨w.heap.size, 1, none⟩ (.int .i64 ps[k].t)).setCell ⟨w.heap.size, 2, none⟩ (.slice ps[k].a ps[k].l.length ps[k].c)).heap[w.heap.size]? = some (.cells #[.int .i64 ps[k].f, .int .i64 ps[k].t, .slice ps[k].a ps[k].l.length ps[k].c] 48 (0, 0)) :=
      hp_set (hp_set (hp_set ((hp_set_ne hbs.symm).trans r0) 0 _) 1 _) 2 _
    have hfk : ∀ k', k' ≠ w.heap.size → ((((w5.setCell ⟨b, 1, none⟩ (.slice (some ⟨g, 0, none⟩) (ps.length - 1) c)).setCell ⟨w.heap.size, 0, none⟩ (.int .i64 ps[k].f)).setCell ⟨w.heap.size, 1, none⟩ (.int .i64 ps[k].t)).setCell ⟨w.heap.size, 2, none⟩ (.slice ps[k].a ps[k].l.length ps[k].c)).heap[k']? = (w5.setCell ⟨b, 1, none⟩ (.slice (some ⟨g, 0, none⟩) (ps.length - 1) c)).heap[k']? :=
      fun k' hn => (hp_set_ne (a := ⟨w.heap.size, 2, none⟩) hn).trans ((hp_set_ne (a := ⟨w.heap.size, 1, none⟩) hn).trans (hp_set_ne (a := ⟨w.heap.size, 0, none⟩) hn))
    obtain ⟨m1, m2⟩ := erase_fin (W := ((((w5.setCell ⟨b, 1, none⟩ (.slice (some ⟨g, 0, none⟩) (ps.length - 1) c)).setCell ⟨w.heap.size, 0, none⟩ (.int .i64 ps[k].f)).setCell ⟨w.heap.size, 1, none⟩ (.int .i64 ps[k].t)).setCell ⟨w.heap.size, 2, none⟩ (.slice ps[k].a ps[k].l.length ps[k].c))) h1 h2 h3 h4 h5 h6 hk hE.own ((hfk b hbs).trans (hp_set r2 1 _)) ((hfk g (by omega)).trans (hp_set_ne hgb.symm))
      (fun k' hk1 hk2 hk3 => (hfk k' (by omega)).trans ((hp_set_ne hk3).trans ((hE.others k' hk2).trans ((hp_alloc_old (by rw [size_new]; omega)).trans (hp_alloc_old hk1)))))
    refine ⟨r2.trans h2.symm, r0, r1, hs, hb0, _, rfl, hf0, m1, m2, (((hb0.setCell (p := ⟨b, 1, none⟩) h1 _).setCell (p := ⟨w.heap.size, 0, none⟩) hbw _).setCell (p := ⟨w.heap.size, 1, none⟩) hbw _).setCell (p := ⟨w.heap.size, 2, none⟩) hbw _, ⟨fun k' hk1 hn => ?_, fun k' hf => ?_, ?_⟩⟩
    · exact (hfk k' (by omega)).trans ((hp_set_ne (fun e => hn (.inl e))).trans ((hE.others k' (fun e => hn ((foot_map h2 k').2 (.inr (.inl (by rw [e])))))).trans ((hp_alloc_old (by rw [size_new]; omega)).trans (hp_alloc_old hk1))))
    · exact .inl ((foot_map h2 k').2 ((foot_map ((hfk b hbs).trans (hp_set r2 1 _)) k').1 hf))
    · rw [size_set, size_set, size_set, size_set, hs]; omega
  have HP := Lib.hid hP
  have HD := Lib.hid hD
  have HF := Lib.hid hF
  have HS : Hid (Below w.heap.size w (w.alloc (.cells #[.int .i64 0, .int .i64 0, .slice none 0 0] 48))) := below_new1 _ _
  have t1 : decide ((k : Int) < ps.length) = true := decide_eq_true (by omega)
  have t2 : (k : Int) < ps.length := by omega
  have t3 : (0 : Int) ≤ k := by omega
  have hwr : IntKind.i64.wrap ((k : Int) + 1) = (k : Int) + 1 := by rw [IntKind.wrap_i64]; unfold maxLen at hcap; omega
  have H2 := Lib.hid h2
  have HS2 := Lib.hid (below_new2 w (.cells #[.int .i64 0, .int .i64 0, .slice none 0 0] 48) (.cells #[.int .i64 ps[k].f, .int .i64 ps[k].t, .slice ps[k].a ps[k].l.length ps[k].c] 48))
  clear h2 h4 h5 h6 hD hF hP
  go_enter Try.func23, Try.ntmps23
  go_wp2_with fail
  refine (HP.out _ HS.out).mono ?_; rintro e w1 ⟨rfl, rfl⟩
  go_wp2_with fail
  refine (HD.out _ HS2.out).mono ?_; rintro e w5 ⟨rfl, hE⟩
  obtain ⟨e1, e2, e3, e4, e5, e6⟩ := HF.out w5 hE
  obtain ⟨d0, d1, d2, g0, g1, g2, hz5⟩ := blk3 (e1.trans H2.out)
  obtain ⟨a0, a1, a2, k0, k1, k2, hz6⟩ := blk3 e2
  obtain ⟨b0, b1, b2, l0, l1, l2, hz7⟩ := blk3 e3
  have HE := Lib.hid e6
  have hne1 : b ≠ w.heap.size := by omega
  have hne2 : b ≠ w.heap.size + 1 := by omega
  clear hE e1 e2 e3 e4 e5 e6 c0 c1 c2 f0 f1 f2 q0 q1 q2
  go_wp2_with fail
  obtain ⟨WF, hWF, hr, hn, hbd, hB⟩ := HE.out
  rw [← hWF]
  obtain ⟨r0, r1, r2, _⟩ := blk3 hr
  clear hWF a0 a1 a2 b0 b1 b2 d0 d1 d2
  exact bodyPost_ret (v := .tuple #[ps[k].val, .int .i64 0]) (by simp [results, Try.results23, go_sem, r0, r1, r2, Result.andThen, Pkt.val]) rfl ⟨rfl, hn, hbd _ (List.getElem_mem hk), hB⟩

theorem drop_out (w : World) (base b : Nat) (nodes i : Int) (ps : List Pkt) (S : Cuts) (h : NetAt w base b nodes ps S) (hi : ¬ (0 ≤ i ∧ i < ps.length)) : Calls Try.prog 14 #[.pointer (some ⟨b, 0, none⟩), .int .i64 i] w fun e w' => e = .returned (.int .i64 60) ∧ Below w.heap.size w w' := by
  have HD := Lib.hid (deliver_out w base b nodes i ps S h hi)
  clear h
  go_enter Try.func14, Try.ntmps14
  go_wp2_with fail
  refine HD.out.mono ?_; rintro e w1 ⟨rfl, hb⟩
  go_wp2_with fail
  go_ret
  exact ⟨rfl, below_step hb (below_new1 _ _)⟩
theorem drop_in (w : World) (base b k : Nat) (nodes : Int) (ps : List Pkt) (S : Cuts) (h : NetAt w base b nodes ps S) (hbw : base ≤ w.heap.size) (hk : k < ps.length) : Calls Try.prog 14 #[.pointer (some ⟨b, 0, none⟩), .int .i64 k] w fun e w' => e = .returned (.int .i64 0) ∧ NetAt w' base b nodes (ps.eraseIdx k) S ∧ Below base w w' ∧ Moved w w' b := by
  have hz := h.lt
  have HD := Lib.hid (deliver_in w base b k nodes ps S h hbw hk)
  clear h
  go_enter Try.func14, Try.ntmps14
  go_wp2_with fail
  refine HD.out.mono ?_; rintro e w1 ⟨he, hn, _, hb, hmv⟩
  have HN := Lib.hid hn
  clear hn
  rw [Pkt.val] at he
  subst he
  go_wp2_with fail
  go_ret
  exact ⟨rfl, HN.out.below (below_new1 _ _), hb.alloc (Nat.le_trans hbw hb.size) _, hmv.trans (Moved.of_below (below_new1 _ _) (Nat.lt_of_lt_of_le hz hb.size))⟩
end Go.Proofs.Ytnnfagdhigodbaa.nete
