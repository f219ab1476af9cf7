/-
  A net in memory: place and Send.
-/
import Derived.Test.YtnnfagdhigodbaaKit
import Derived.Test.YtnnfagdhigodbaaKit2
import Derived.Test.YtnnfagdhigodbaaKit3
import Derived.Test.YtnnfagdhigodbaaBytes
import Derived.Test.YtnnfagdhigodbaaNetC
import Derived.Test.YtnnfagdhigodbaaNetG
import Derived.Test.YtnnfagdhigodbaaNetS
import Derived.Test.YtnnfagdhigodbaaMapKit
import Derived.Test.YtnnfagdhigodbaaProg
import Derived.Lib.Hide
import Derived.Deep.RegionWith
import Derived.Deep.RegionLaw
import Derived.Deep.QuietTactic
import Derived.BigQuiet
namespace Go.Proofs.Ytnnfagdhigodbaa.nett
open Go.ChangeShapes Go.WideShapes Go.ChangeAt Go.RowKit
open Go.Proofs.Ytnnfagdhigodbaa.kit Go.Proofs.Ytnnfagdhigodbaa.byt Go.Proofs.Ytnnfagdhigodbaa.netc Go.Proofs.Ytnnfagdhigodbaa.netg Go.Proofs.Ytnnfagdhigodbaa.nets Go.Proofs.Ytnnfagdhigodbaa.mapkit
set_option linter.unusedVariables false
set_option linter.unusedSimpArgs false
set_option maxHeartbeats 1000000
set_option maxRecDepth 100000

theorem infoPkt : (Try.prog.info? 48).map (fun i => (i.zero, i.size, i.bytes)) = some (some (.agg #[.int .i64 0, .int .i64 0, .slice none 0 0]), 3, 40) := by kernel_rfl
theorem lie_new3 (w : World) (a b c : Value) (T : TypeId) : Lie (w.alloc (.cells #[a, b, c] T)) (some ⟨w.heap.size, 0, none⟩) [a, b, c] := by
  refine .inr ⟨_, 0, rfl, by rw [size_new]; omega, fun i hi => ?_⟩
  have hb := blk (hp_alloc_new w (.cells #[a, b, c] T))
  rw [Nat.zero_add, hb.1]
  match i, hi with
  | 0, _ => rfl
  | 1, _ => rfl
  | 2, _ => rfl

theorem place_in (w : World) (base b : Nat) (nodes i : Int) (ps : List Pkt) (S : Cuts) (h : NetAt w base b nodes ps S) (hi : 0 ≤ i) (hin : i < ps.length) : Calls Try.prog 30 #[.pointer (some ⟨b, 0, none⟩), .int .i64 i] w fun e w' => e = .returned (.int .i64 0) ∧ w = w' := by
  obtain ⟨h1, ⟨a, c, mb, h2, h3, h4, h5⟩, h6⟩ := h
  obtain ⟨c0, c1, c2, f0, f1, f2, hz⟩ := blk3 h2
  clear h2 h4 h5 h6
  have t1 : decide (i < 0) = false := decide_eq_false (by omega)
  have t2 : decide ((ps.length : Int) ≤ i) = false := decide_eq_false (by omega)
  have t3 : ¬ i < 0 := by omega
  have t4 : ¬ (ps.length : Int) ≤ i := by omega
  go_enter Try.func30, Try.ntmps30
  go_wp2_with fail
  go_ret
  exact ⟨rfl, rfl⟩

theorem place_out (w : World) (base b : Nat) (nodes i : Int) (ps : List Pkt) (S : Cuts) (h : NetAt w base b nodes ps S) (hi : ¬ (0 ≤ i ∧ i < ps.length)) : Calls Try.prog 30 #[.pointer (some ⟨b, 0, none⟩), .int .i64 i] w fun e w' => e = .returned (.int .i64 60) ∧ w = w' := by
  obtain ⟨h1, ⟨a, c, mb, h2, h3, h4, h5⟩, h6⟩ := h
  obtain ⟨c0, c1, c2, f0, f1, f2, hz⟩ := blk3 h2
  clear h2 h4 h5 h6
  by_cases hneg : i < 0
  · have t1 : decide (i < 0) = true := decide_eq_true hneg
    clear hi
    go_enter Try.func30, Try.ntmps30
    go_wp2_with fail
    go_ret
    exact ⟨rfl, rfl⟩
  · have t1 : decide (i < 0) = false := decide_eq_false hneg
    have t2 : decide ((ps.length : Int) ≤ i) = true := decide_eq_true (by omega)
    have t4 : (ps.length : Int) ≤ i := by omega
    clear hi
    go_enter Try.func30, Try.ntmps30
    go_wp2_with fail
    go_ret
    exact ⟨rfl, rfl⟩

theorem own_heap {w : World} {base : Nat} {e : TypeId} {size n c : Nat} {a : Option Addr} {xs : List Value} (h : w.ownsRow base e size (.slice a n c) n xs) : ∀ g, a = some ⟨g, 0, none⟩ → ∃ cur, w.heap[g]? = some (.cells cur e (0, 0)) := by
  rintro g rfl
  rcases h.2 with ⟨hz0, _⟩ | ⟨g', cap, cur, e', hgb, hh, _⟩
  · simp at hz0
  · simp only [Value.slice.injEq, Option.some.injEq, Addr.mk.injEq, and_true] at e'
    obtain ⟨rfl, _⟩ := e'
    exact ⟨cur, hh⟩
theorem own_block {w : World} {base : Nat} {e : TypeId} {size n c : Nat} {a : Option Addr} {xs : List Value} (h : w.ownsRow base e size (.slice a n c) n xs) : ∀ j, (Value.slice a n c).ownBlock = some j → a = some ⟨j, 0, none⟩ := by
  intro j hj
  rcases h.2 with ⟨hz0, _⟩ | ⟨g', cap, cur, e', hgb, hh, _⟩
  · rw [hz0] at hj; simp [Value.ownBlock] at hj
  · rw [e'] at hj
    simp [Value.ownBlock] at hj
    subst hj
    simp only [Value.slice.injEq] at e'
    exact e'.1
theorem own_shape {w : World} {base : Nat} {e : TypeId} {size : Nat} {v : Value} {n : Nat} {xs : List Value} (h : w.ownsRow base e size v n xs) : ∃ a c, v = .slice a n c := by
  rcases h.2 with ⟨rfl, rfl⟩ | ⟨g, cap, cur, rfl, hg, hh, hc, hm, hsz, hx⟩
  · exact ⟨none, 0, rfl⟩
  · exact ⟨_, cap, rfl⟩

/-- What an append to the packets, and the store of the new slice, leave. -/
theorem grown_fin {w w5 : World} {base b mb : Nat} {nodes : Int} {ps : List Pkt} {S : Cuts} {a : Option Addr} {c : Nat} {p : Pkt} {v5 : Value} {o : Obj} (h1 : base ≤ b) (hbw : base ≤ w.heap.size) (h2 : w.heap[b]? = some (.cells #[.int .i64 nodes, .slice a ps.length c, .map (some mb)] 67 (0, 0))) (h3 : base ≤ mb) (h4 : CutAt w mb S) (h5 : w.ownsRow base 48 3 (.slice a ps.length c) ps.length (pkcells ps))
    (h6 : ∀ p ∈ ps, Body w base p) (hp : Body w base p) (hown : w5.ownsRow base 48 3 v5 (ps.length + 1) (pkcells ps ++ p.cells)) (hg : (w.alloc o).grownBy w5 (Value.slice a ps.length c).ownBlock) (hat : ∀ k, v5.ownBlock = some k → (Value.slice a ps.length c).ownBlock = some k ∨ (w.alloc o).heap.size ≤ k) :
    NetAt (w5.setCell ⟨b, 1, none⟩ v5) base b nodes (ps ++ [p]) S ∧ Below base w (w5.setCell ⟨b, 1, none⟩ v5) ∧ Moved w (w5.setCell ⟨b, 1, none⟩ v5) b := by
  have hB5 : Below base w w5 := ((Below.refl _ w).alloc hbw o).grown hg (by rw [size_new]; omega) (fun j hj => by have := h5.lt j hj; omega)
  obtain ⟨a', c', rfl⟩ := own_shape hown
  obtain ⟨es, cl, hm, hm2, hm3⟩ := h4
  have hk0 : ∀ k, k < w.heap.size → (∀ g, a = some ⟨g, 0, none⟩ → g ≠ k) → w5.heap[k]? = w.heap[k]? := by
    intro k hk hn
    refine (hg.block k (by rw [size_new]; omega) (fun e => ?_)).trans (hp_alloc_old hk)
    exact hn k (own_block h5 k e.symm) rfl
  have hk : ∀ k, k < w.heap.size → (∀ g, a = some ⟨g, 0, none⟩ → g ≠ k) → k ≠ b → (w5.setCell ⟨b, 1, none⟩ (.slice a' (ps.length + 1) c')).heap[k]? = w.heap[k]? := fun k hk hn hb => (hp_set_ne hb).trans (hk0 k hk hn)
  have hmz : mb < w.heap.size := (Array.getElem?_eq_some_iff.1 hm).1
  have hbm : mb ≠ b := by rintro rfl; rw [h2] at hm; simp at hm
  have hb5 : w5.heap[b]? = some (.cells #[.int .i64 nodes, .slice a ps.length c, .map (some mb)] 67 (0, 0)) := (hk0 b (blk h2).2.2 (own_ne h5 h2 (by decide))).trans h2
  have hbody : ∀ q, Body w base q → Body (w5.setCell ⟨b, 1, none⟩ (.slice a' (ps.length + 1) c')) base q := by
    intro q hq
    refine own_kept hq (fun g hgq => ?_)
    obtain ⟨cur, hcur⟩ := own_heap hq g hgq
    exact hk g (own_from hq g hgq).2 (own_ne h5 hcur (by decide)) (own_ne hq h2 (by decide) g hgq)
  refine ⟨⟨h1, ⟨a', c', mb, ?_, h3, ⟨es, cl, (hk mb hmz (own_nm h5 hm) hbm).trans hm, hm2, hm3⟩, ?_⟩, fun q hq => ?_⟩, hB5.setCell (p := ⟨b, 1, none⟩) h1 _,
    ⟨fun k hk' hn => hk k hk' (fun g hg' e => hn ((foot_map h2 k).2 (.inr (.inl (by rw [hg', e]))))) (fun e => hn (.inl e)), fun k hf => ?_, by rw [size_set]; have := hg.size; rw [size_new] at this; omega⟩⟩
  · rw [List.length_append]
    exact hp_set hb5 1 _
  · have e : pkcells (ps ++ [p]) = pkcells ps ++ p.cells := by simp [pkcells]
    rw [e, List.length_append]
    exact own_kept hown (fun g hg' => hp_set_ne (own_ne hown hb5 (by decide) g hg'))
  · rcases List.mem_append.1 hq with h | h
    · exact hbody q (h6 q h)
    · rw [List.mem_singleton.1 h]; exact hbody p hp
  · rcases (foot_map (hp_set hb5 1 _) k).1 hf with h | h | h
    · exact .inl (.inl h)
    · rcases hat k (by rw [h]; rfl) with h' | h'
      · exact .inl ((foot_map h2 k).2 (.inr (.inl (own_block h5 k h'))))
      · rw [size_new] at h'
        exact .inr (by omega)
    · exact .inl ((foot_map h2 k).2 (.inr (.inr h)))

theorem look_in {w : World} {mb : Nat} {S : Cuts} (h : CutAt w mb S) (p : Int × Int) (hp : p ∈ S) :
    ∃ v : Value, (Instr.lookup 65 (.map (some mb)) (pk p) true).run Try.prog w = .ok (.tuple #[v, .bool true]) w := by
  have := cut_look h p
  rwa [decide_eq_true hp] at this
theorem look_out {w : World} {mb : Nat} {S : Cuts} (h : CutAt w mb S) (p : Int × Int) (hp : p ∉ S) :
    ∃ v : Value, (Instr.lookup 65 (.map (some mb)) (pk p) true).run Try.prog w = .ok (.tuple #[v, .bool false]) w := by
  have := cut_look h p
  rwa [decide_eq_false hp] at this

theorem send_arg (w : World) (base b : Nat) (nodes x y : Int) (ps : List Pkt) (S : Cuts) (ad : Option Addr) (n k : Nat) (h : NetAt w base b nodes ps S) (hn : ¬ ((1 ≤ x ∧ x ≤ nodes) ∧ (1 ≤ y ∧ y ≤ nodes) ∧ n ≤ 16384)) :
    Calls Try.prog 11 #[.pointer (some ⟨b, 0, none⟩), .int .i64 x, .int .i64 y, .slice ad n k] w fun e w' => e = .returned (.int .i64 1) ∧ w = w' := by
  obtain ⟨h1, ⟨a, c, mb, h2, h3, h4, h5⟩, h6⟩ := h
  obtain ⟨c0, c1, c2, f0, f1, f2, hz⟩ := blk3 h2
  have hA := has_any w b nodes x c0
  have hB := has_any w b nodes y c0
  clear h2 h4 h5 h6
  by_cases hx : 1 ≤ x ∧ x ≤ nodes
  · rw [decide_eq_true hx] at hA
    by_cases hy : 1 ≤ y ∧ y ≤ nodes
    · rw [decide_eq_true hy] at hB
      have hl : ¬ n ≤ 16384 := fun e => hn ⟨hx, hy, e⟩
      have t1 : decide ((16384 : Int) < n) = true := decide_eq_true (by omega)
      have t2 : (16384 : Int) < n := by omega
      clear hn
      go_enter Try.func11, Try.ntmps11
      go_wp2_with fail
      refine hA.mono ?_; rintro e w1 ⟨rfl, rfl⟩
      go_wp2_with fail
      refine hB.mono ?_; rintro e w1 ⟨rfl, rfl⟩
      go_wp2_with fail
      go_ret
      exact ⟨rfl, rfl⟩
    · rw [decide_eq_false hy] at hB
      clear hn
      go_enter Try.func11, Try.ntmps11
      go_wp2_with fail
      refine hA.mono ?_; rintro e w1 ⟨rfl, rfl⟩
      go_wp2_with fail
      refine hB.mono ?_; rintro e w1 ⟨rfl, rfl⟩
      go_wp2_with fail
      go_ret
      exact ⟨rfl, rfl⟩
  · rw [decide_eq_false hx] at hA
    clear hn
    go_enter Try.func11, Try.ntmps11
    go_wp2_with fail
    refine hA.mono ?_; rintro e w1 ⟨rfl, rfl⟩
    go_wp2_with fail
    go_ret
    exact ⟨rfl, rfl⟩

theorem send_cut (w : World) (base b : Nat) (nodes x y : Int) (ps : List Pkt) (S : Cuts) (ad : Option Addr) (n k : Nat) (h : NetAt w base b nodes ps S) (hx : 1 ≤ x ∧ x ≤ nodes) (hy : 1 ≤ y ∧ y ≤ nodes) (hl : n ≤ 16384) (hc : pr x y ∈ S) :
    Calls Try.prog 11 #[.pointer (some ⟨b, 0, none⟩), .int .i64 x, .int .i64 y, .slice ad n k] w fun e w' => e = .returned (.int .i64 0) ∧ Below w.heap.size w w' := by
  obtain ⟨h1, ⟨a, c, mb, h2, h3, h4, h5⟩, h6⟩ := h
  obtain ⟨c0, c1, c2, f0, f1, f2, hz⟩ := blk3 h2
  have hA := has_any w b nodes x c0
  have hB := has_any w b nodes y c0
  rw [decide_eq_true hx] at hA
  rw [decide_eq_true hy] at hB
  have hlk : ∀ W, Below w.heap.size w W → ∃ v : Value, (Instr.lookup 65 (.map (some mb)) (pk (pr x y)) true).run Try.prog W = .ok (.tuple #[v, .bool true]) W := fun W hb => look_in (h4.below hb) _ hc
  have HLK := Lib.hid hlk
  have t1 : decide ((16384 : Int) < n) = false := decide_eq_false (by omega)
  have t2 : ¬ (16384 : Int) < n := by omega
  clear h2 h4 h5 h6 hlk
  go_enter Try.func11, Try.ntmps11
  go_wp2_with fail
  refine hA.mono ?_; rintro e w1 ⟨rfl, rfl⟩
  go_wp2_with fail
  refine hB.mono ?_; rintro e w1 ⟨rfl, rfl⟩
  go_wp2_with fail
  go_region_with (first | (go_at_call 28; refine (pair_any w.drew x y).mono ?_; rintro e w1 ⟨rfl, hb1⟩; have hb1' := below_step (below_drewN (Below.refl _ w) 1) hb1; have d2 := cell_step c2 hb1'; obtain ⟨vv, hlk1⟩ := HLK.out w1 hb1'; have HB1 := Lib.hid hb1'; clear hb1 hb1'))
  all_goals
    go_wp2_with fail
    go_ret
    exact ⟨rfl, HB1.out⟩
end Go.Proofs.Ytnnfagdhigodbaa.nett
