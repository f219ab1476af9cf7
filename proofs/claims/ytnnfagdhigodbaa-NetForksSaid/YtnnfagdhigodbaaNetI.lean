/-
  A net's All: the list of its packets, cloned; the sequence that tells each with a body of its own.
-/
import Derived.Test.YtnnfagdhigodbaaNetL
namespace Go.Proofs.Ytnnfagdhigodbaa.neti
open Go.ChangeShapes Go.WideShapes Go.ChangeAt Go.RowKit Go.Shelf
open Go.Proofs.Ytnnfagdhigodbaa.kit Go.Proofs.Ytnnfagdhigodbaa.byt Go.Proofs.Ytnnfagdhigodbaa.netc Go.Proofs.Ytnnfagdhigodbaa.netg Go.Proofs.Ytnnfagdhigodbaa.nets Go.Proofs.Ytnnfagdhigodbaa.nett Go.Proofs.Ytnnfagdhigodbaa.nete Go.Proofs.Ytnnfagdhigodbaa.netf Go.Proofs.Ytnnfagdhigodbaa.netq Go.Proofs.Ytnnfagdhigodbaa.netl
set_option linter.unusedVariables false
set_option linter.unusedSimpArgs false
set_option maxHeartbeats 1000000
set_option maxRecDepth 100000

theorem clonep_nil (w : World) : Calls Try.prog 40 #[.slice none 0 0] w fun e w' => e = .returned (.slice none 0 0) ∧ w = w' := by
  have hn := fun w => Lib.run_eql_slice_nil (P := Try.prog) w 43 48 none 0 0 0 0 Try.underlying43
  go_enter Try.func40, Try.ntmps40
  go_wp2_with fail
  go_ret
  exact ⟨rfl, rfl⟩

theorem clonep_some (ps : List Pkt) (ad : Addr) (cap : Nat) (w : World) (hl : ps.length ≤ 256) (hat : Lie w (some ad) (pkcells ps)) :
    Calls Try.prog 40 #[.slice (some ad) ps.length cap] w fun e w' => ∃ v, e = .returned v ∧ w'.ownsRow w.heap.size 48 3 v ps.length (pkcells ps) ∧ Below w.heap.size w w' := by
  obtain ⟨i0, hi, hz0, hz1, hz2⟩ := info_parts infoPkt
  have hn := fun w => Lib.run_eql_slice_nil (P := Try.prog) w 43 48 (some ad) ps.length cap 0 0 Try.underlying43
  have hown : (w.alloc (.cells #[] 48)).ownsRow w.heap.size 48 3 (.slice (some ⟨w.heap.size, 0, none⟩) 0 0) 0 [] :=
    ⟨rfl, .inr ⟨w.heap.size, 0, #[], rfl, Nat.le_refl _, hp_alloc_new _ _, Nat.le_refl _, by simp [maxLen], rfl, rfl⟩⟩
  have hat' : Lie (w.alloc (.cells #[] 48)) (some ad) (pkcells ps) := hat.below (below_new1 _ _)
  go_enter Try.func40, Try.ntmps40
  go_wp2_with (at_builtin; refine wpl_append rfl (.tmp 5) (.tmp 6) 43 rfl w.heap.size 48 i0 _ 3 40 Try.underlying43 hi hz0 hz1 hz2 rfl (by decide) _ 0 [] rfl hown (some ad) ps.length cap (pkcells ps) rfl (by simp) (pkcells_len ps) hat' (pkcells_one _) (by unfold maxLen; omega) (by omega) (by rw [size_new]; omega) ?_)
  intro v' w' hown' hgr
  go_wp2_with fail
  go_ret
  refine ⟨v', rfl, ?_, (below_new1 _ _).grown hgr (by rw [size_new]; omega) (fun k hk => (hown.lt k hk).1)⟩
  simpa using hown'

theorem clonep_any (ps : List Pkt) (ao : Option Addr) (cap base : Nat) (w : World) (hl : ps.length ≤ 256) (h : w.ownsRow base 48 3 (.slice ao ps.length cap) ps.length (pkcells ps)) :
    Calls Try.prog 40 #[.slice ao ps.length cap] w fun e w' => ∃ v, e = .returned v ∧ w'.ownsRow w.heap.size 48 3 v ps.length (pkcells ps) ∧ Below w.heap.size w w' := by
  obtain ⟨ao', cap', e, hn, hlie, _⟩ := owned_lie h
  simp only [Value.slice.injEq, true_and] at e
  obtain ⟨rfl, rfl⟩ := e
  cases ao with
  | none =>
    obtain ⟨h1, rfl⟩ := hn rfl
    obtain rfl : ps = [] := List.length_eq_zero_iff.1 h1
    refine (clonep_nil w).mono fun e w' ⟨he, hw⟩ => ?_
    subst hw
    exact ⟨_, he, World.ownsRow_nil _ _ _ _, Below.refl _ _⟩
  | some ad => exact clonep_some ps ad cap w hl hlie

/-- What lies below hi is as it was, but for the block z. -/
def KpZ (z hi : Nat) (W W' : World) : Prop := W.heap.size ≤ W'.heap.size ∧ ∀ j, j < hi → j ≠ z → W'.heap[j]? = W.heap[j]?
theorem KpZ.refl (z hi : Nat) (W : World) : KpZ z hi W W := ⟨Nat.le_refl _, fun _ _ _ => rfl⟩
theorem KpZ.trans {z hi : Nat} {A B C : World} (h : KpZ z hi A B) (k : KpZ z hi B C) : KpZ z hi A C := ⟨Nat.le_trans h.1 k.1, fun j h1 h2 => (k.2 j h1 h2).trans (h.2 j h1 h2)⟩
theorem KpZ.of_below {z hi n : Nat} {A B : World} (h : Below n A B) (hn : hi ≤ n) : KpZ z hi A B := ⟨h.size, fun j h1 _ => h.block j (by omega)⟩
theorem KpZ.put {z hi : Nat} {w : World} (h : hi ≤ w.heap.size) (W : World) (l : Nat) (o : Obj) (hl : w.heap.size ≤ l) : KpZ z hi W (W.putObj l o) := by
  have hg := grownBy_putObj' W l o
  refine ⟨hg.size, fun j h1 _ => ?_⟩
  by_cases hj : j < W.heap.size
  · exact hg.block j hj (by simp; omega)
  · have e : (W.putObj l o).heap.size = W.heap.size := by simp [World.putObj]
    rw [Array.getElem?_eq_none (by omega), Array.getElem?_eq_none (by omega)]

/-- What the sequence's closure has: the box B with the list of packets; all lies below hi and is not z. -/
structure ItP (w : World) (z hi B : Nat) (ps : List Pkt) : Prop where
  box : ∃ a c, w.heap[B]? = some (.cells #[.slice a ps.length c] 43 (0, 0)) ∧ w.ownsRow 0 48 3 (.slice a ps.length c) ps.length (pkcells ps) ∧ (∀ g, a = some ⟨g, 0, none⟩ → g < hi ∧ g ≠ z)
  bsz : B < hi ∧ B ≠ z
  bodies : ∀ p ∈ ps, Body w 0 p ∧ (∀ g, p.a = some ⟨g, 0, none⟩ → g < hi ∧ g ≠ z) ∧ p.l.length ≤ 16384
  len : ps.length ≤ 256
theorem ItP.keep {w w' : World} {z hi B : Nat} {ps : List Pkt} (h : ItP w z hi B ps) (hk : KpZ z hi w w') : ItP w' z hi B ps := by
  obtain ⟨⟨a, c, h1, h2, h3⟩, hb, hbd, hl⟩ := h
  exact ⟨⟨a, c, (hk.2 B hb.1 hb.2).trans h1, own_kept h2 (fun g hg => hk.2 g (h3 g hg).1 (h3 g hg).2), h3⟩, hb, fun p hp => ⟨own_kept (hbd p hp).1 (fun g hg => hk.2 g ((hbd p hp).2.1 g hg).1 ((hbd p hp).2.1 g hg).2), (hbd p hp).2⟩, hl⟩

theorem all_some (w : World) (base b : Nat) (nodes : Int) (ps : List Pkt) (S : Cuts) (h : NetAt w base b nodes ps S) (hF : ps.length ≤ 256) : Calls Try.prog 26 #[.pointer (some ⟨b, 0, none⟩)] w fun e w' => ∃ B a c, e = .returned (.func (.func 41) #[] #[.pointer (some ⟨B, 0, none⟩)]) ∧
    B = w.heap.size ∧ w'.heap[B]? = some (.cells #[.slice a ps.length c] 43 (0, 0)) ∧ w'.ownsRow (w.heap.size + 1) 48 3 (.slice a ps.length c) ps.length (pkcells ps) ∧ Below w.heap.size w w' := by
  obtain ⟨h1, ⟨a, c, mb, h2, h3, h4, h5⟩, h6⟩ := h
  obtain ⟨c0, c1, c2, f0, f1, f2, hz⟩ := blk3 h2
  have hB1 := below_new1 w (.cells #[.slice none 0 0] 43)
  have HC := Lib.hid (clonep_any ps a c base (w.alloc (.cells #[.slice none 0 0] 43)) hF (own_below h5 hB1))
  have HN := Lib.hid (hp_alloc_new w (.cells #[.slice none 0 0] 43))
  have HB1 := Lib.hid hB1
  clear h2 h4 h5 h6 hB1
  go_enter Try.func26, Try.ntmps26
  go_wp2_with fail
  refine HC.out.mono ?_; rintro e w2 ⟨v, rfl, hv, hb2⟩
  obtain ⟨a2, c2, rfl⟩ := own_shape hv
  rw [size_new] at hv
  have hn2 := hp_step HN.out hb2
  obtain ⟨q0, g0, hz2⟩ := blk1 hn2
  have HV := Lib.hid hv
  have HN2 := Lib.hid hn2
  have HB2 := Lib.hid (below_step HB1.out hb2)
  clear hv hn2 hb2
  go_wp2_with fail
  refine bodyPost_ret (v := .func (.func 41) #[] #[.pointer (some ⟨w.heap.size, 0, none⟩)]) (by simp [results, Try.results26, go_sem]) rfl ⟨_, _, _, rfl, rfl, hp_set HN2.out 0 _, own_kept HV.out (fun g hg => hp_set_ne ?_), HB2.out.setCell (p := ⟨w.heap.size, 0, none⟩) (Nat.le_refl _) _⟩
  have := (own_from HV.out g hg).1
  show g ≠ w.heap.size
  omega

/-- What is known of a thing that All tells, as it is told. -/
def Good (lo : Nat) (ps : List Pkt) (pre : List (Int × Pkt)) (x : Int × Pkt) (W : World) : Prop :=
  x.1 = (pre.length : Nat) ∧ (ps.map q)[pre.length]? = some (q x.2) ∧ Body W lo x.2
attribute [local go_sem] Oper.semAt_some

theorem all_it (n : Nat) (hn : 1 ≤ n) (z hi B : Nat) (ps : List Pkt) (w : World) (h : ItP w z hi B ps) (hhi : hi ≤ w.heap.size) :
    Tells Fence.wide n Try.prog 41 #[.pointer (some ⟨B, 0, none⟩)] (fun x : Int × Pkt => #[.int .i64 x.1, x.2.val]) (KpZ z hi) (Good hi ps) (fun xs => xs.length = ps.length) w := by
  intro l J W hW hJ hY h0
  have hWk : KpZ z hi w W := KpZ.of_below hW hhi
  have H4 : Hid (∀ wr, KpZ z hi W wr → ItP wr z hi B ps) := fun wr hb => h.keep (hWk.trans hb)
  obtain ⟨⟨a, c, hb, hr, hg⟩, hbz, hbd, hlen⟩ := H4.out W (KpZ.refl _ _ _)
  obtain ⟨c1, z0, z1⟩ := blk1 hb
  have HA : Hid (∀ wr, KpZ z hi W wr → wr.heap[B]? = some (.cells #[.slice a ps.length c] 43 (0, 0)) ∧ wr.ownsRow 0 48 3 (.slice a ps.length c) ps.length (pkcells ps)) :=
    fun wr hb' => ⟨(hb'.2 B hbz.1 hbz.2).trans hb, own_kept hr (fun g hg1 => hb'.2 g (hg g hg1).1 (hg g hg1).2)⟩
  have HY := Lib.hid hY
  have HJ := Lib.hid hJ
  have hs : hi ≤ W.heap.size := by have := hW.size; omega
  clear hY hJ hW hWk h hb hr hg hbd
  refine callsIn_of_wp Try.func41 rfl trivial ?_ rfl
  simp only [Try.ntmps41, List.size_toArray, List.length_cons, List.length_nil, Nat.reduceAdd, Nat.reduceSub, Array.replicate_succ, Array.replicate_zero, List.push_toArray, List.append_toArray, List.nil_append, List.cons_append]
  gi_wp2
  gi_loopw [7] (fun i wr => ∃ (k : Nat) (xs : List (Int × Pkt)), k ≤ ps.length ∧ i = .int .i64 k ∧ xs.length = k ∧ J xs wr ∧ KpZ z hi W wr)
    (fun i _ => ps.length - (intOf i).toNat)
  case atStart => exact ⟨0, [], Nat.zero_le _, rfl, rfl, h0, KpZ.refl _ _ _⟩
  case round =>
    obtain ⟨k, xs, hk, rfl, hxs, hJs, hb⟩ := hrel
    have HK := Lib.hid hb
    by_cases hlt : k < ps.length
    · obtain ⟨_, _, hbd', _⟩ := H4.out wr hb
      obtain ⟨_, hr'⟩ := HA.out wr hb
      obtain ⟨g, rfl⟩ := own_ptr hr' (by omega)
      obtain ⟨q0, q1, q2⟩ := pk_cells hr' hlt
      have hgz := (own_from hr' g rfl).2
      obtain ⟨hbk, _, hlk⟩ := hbd' _ (List.getElem_mem hlt)
      obtain ⟨hlie, hnil⟩ := body_lie hbk
      obtain ⟨wA, hwA⟩ : ∃ wA : World, wA = wr.alloc (.cells #[.int .i64 ps[k].f, .int .i64 ps[k].t, .slice ps[k].a ps[k].l.length ps[k].c] 48) := ⟨_, rfl⟩
      have hbA : Below wr.heap.size wr wA := by rw [hwA]; exact below_new1 _ _
      have HC := Lib.hid (copied_any wA ps[k].f ps[k].t ps[k].a ps[k].l ps[k].c (by omega) hnil (hlie.below hbA))
      have HBA := Lib.hid hbA
      have HWA := Lib.hid hwA
      clear hbA hwA hlie hnil hbk hbd' hr' hb
      gi_wp2
      rw [← HWA.out]
      refine ⟨trivial, (callsIn_wide.2 HC.out).mono ?_⟩
      rintro e w2 ⟨pa, pc, rfl, hpb, hb2⟩
      have hb3 : Below wr.heap.size wr w2 := below_step HBA.out hb2
      have hJ2 := HJ.out xs wr w2 none hJs ⟨hb3.os, hb3.tape, hb3.output, hb3.size, fun j hj _ => hb3.block j hj⟩ (by simp)
      have hk2 : KpZ z hi W w2 := HK.out.trans (KpZ.of_below hb3 (by have := HK.out.1; omega))
      obtain ⟨fn, tmps, assign, body, hy, hR⟩ := HY.out xs ((k : Int), ⟨ps[k].f, ps[k].t, ps[k].l, pa, pc⟩) w2 hJ2 ⟨by rw [hxs], by rw [hxs]; simp [hlt, q], own_mono hpb (by have := HBA.out.size; have := HK.out.1; omega)⟩
      dsimp only [Pkt.val] at hy
      have HK2 := Lib.hid hk2
      clear hJ2 hk2 hpb hb2 hb3 HC
      gi_wp2
      refine hR.mono ?_
      rintro e W3 ⟨rfl, hJ3, hk3⟩
      have HK3 := Lib.hid (HK2.out.trans hk3)
      clear hk3
      gi_wp2
      go_roundw
      case rel => exact ⟨k + 1, _, by omega, by go_num, by rw [List.length_append, hxs]; rfl, hJ3, HK3.out⟩
      case measure => simp [intOf]; omega
    · obtain rfl : k = ps.length := by omega
      gi_wp2
      exact bodyPost_end (v := .tuple #[]) (by simp [results, Try.results41, go_sem]) rfl ⟨⟨_, rfl⟩, _, hxs, hJs⟩
end Go.Proofs.Ytnnfagdhigodbaa.neti
