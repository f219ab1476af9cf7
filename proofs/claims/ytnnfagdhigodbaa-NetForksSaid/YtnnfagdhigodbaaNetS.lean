/-
  A net in memory, whole: New, Len, Heal, Cut.
-/
import Derived.Test.YtnnfagdhigodbaaKit
import Derived.Test.YtnnfagdhigodbaaKit3
import Derived.Test.YtnnfagdhigodbaaBytes
import Derived.Test.YtnnfagdhigodbaaNetC
import Derived.Test.YtnnfagdhigodbaaNetG
import Derived.Test.YtnnfagdhigodbaaMapKit
import Derived.Test.YtnnfagdhigodbaaProg
import Derived.Lib.Hide
import Derived.Deep.RegionWith
import Derived.Deep.QuietTactic
import Derived.BigQuiet
namespace Go.Proofs.Ytnnfagdhigodbaa.nets
open Go.ChangeShapes Go.WideShapes Go.ChangeAt Go.RowKit
open Go.Proofs.Ytnnfagdhigodbaa.kit Go.Proofs.Ytnnfagdhigodbaa.byt Go.Proofs.Ytnnfagdhigodbaa.netc Go.Proofs.Ytnnfagdhigodbaa.netg Go.Proofs.Ytnnfagdhigodbaa.mapkit
set_option linter.unusedVariables false
set_option linter.unusedSimpArgs false
set_option maxHeartbeats 1000000
set_option maxRecDepth 100000

structure Pkt where
  f : Int
  t : Int
  l : List Nat
  a : Option Addr
  c : Nat
def Pkt.cells (p : Pkt) : List Value := [.int .i64 p.f, .int .i64 p.t, .slice p.a p.l.length p.c]
def Pkt.val (p : Pkt) : Value := .agg #[.int .i64 p.f, .int .i64 p.t, .slice p.a p.l.length p.c]
def pkcells (ps : List Pkt) : List Value := ps.flatMap Pkt.cells
def Body (w : World) (base : Nat) (p : Pkt) : Prop := w.ownsRow base 5 1 (.slice p.a p.l.length p.c) p.l.length (bcells p.l)
theorem pkcells_len (ps : List Pkt) : (pkcells ps).length = ps.length * 3 := by
  induction ps with
  | nil => rfl
  | cons p ps ih => simp only [pkcells, List.flatMap_cons, List.length_append, List.length_cons] at ih ⊢; rw [ih]; simp [Pkt.cells]; omega
theorem pkcells_one (ps : List Pkt) : ∀ u ∈ pkcells ps, u.oneCell' = true := by
  intro u hu
  simp only [pkcells, List.mem_flatMap] at hu
  obtain ⟨p, _, hu⟩ := hu
  simp only [Pkt.cells, List.mem_cons, List.not_mem_nil, or_false] at hu
  rcases hu with rfl | rfl | rfl <;> rfl
theorem pkcells_append (ps qs : List Pkt) : pkcells (ps ++ qs) = pkcells ps ++ pkcells qs := by simp [pkcells]

structure NetAt (w : World) (base b : Nat) (nodes : Int) (ps : List Pkt) (S : Cuts) : Prop where
  lo : base ≤ b
  ex : ∃ a c mb, w.heap[b]? = some (.cells #[.int .i64 nodes, .slice a ps.length c, .map (some mb)] 67 (0, 0)) ∧ base ≤ mb ∧ CutAt w mb S ∧ w.ownsRow base 48 3 (.slice a ps.length c) ps.length (pkcells ps)
  bodies : ∀ p ∈ ps, Body w base p
theorem NetAt.below {w w' : World} {base b : Nat} {nodes : Int} {ps : List Pkt} {S : Cuts} (h : NetAt w base b nodes ps S) (hb : Below w.heap.size w w') : NetAt w' base b nodes ps S := by
  obtain ⟨h1, ⟨a, c, mb, h2, h3, h4, h5⟩, h6⟩ := h
  exact ⟨h1, ⟨a, c, mb, hp_step h2 hb, h3, h4.below hb, own_below h5 hb⟩, fun p hp => own_below (h6 p hp) hb⟩
theorem NetAt.lt {w : World} {base b : Nat} {nodes : Int} {ps : List Pkt} {S : Cuts} (h : NetAt w base b nodes ps S) : b < w.heap.size := by
  obtain ⟨h1, ⟨a, c, mb, h2, h3, h4, h5⟩, h6⟩ := h
  exact (blk h2).2.2

theorem own_ne {w : World} {base : Nat} {e T : TypeId} {size n c b : Nat} {a : Option Addr} {xs : List Value} {cs : Array Value} (h : w.ownsRow base e size (.slice a n c) n xs) (hb : w.heap[b]? = some (.cells cs T (0, 0))) (ht : T ≠ e) : ∀ g, a = some ⟨g, 0, none⟩ → g ≠ b := by
  rintro g hg rfl
  rcases h.2 with ⟨hz0, _⟩ | ⟨g', cap, cur, e', hgb, hh, _⟩
  · simp [hg] at hz0
  · simp only [Value.slice.injEq, hg, Option.some.injEq, Addr.mk.injEq, and_true] at e'
    obtain ⟨rfl, _⟩ := e'
    rw [hb] at hh
    simp only [Option.some.injEq, Obj.cells.injEq] at hh
    exact ht hh.2.1
theorem own_nm {w : World} {base : Nat} {e : TypeId} {size n c b : Nat} {a : Option Addr} {xs : List Value} {es : Array MapEntry} {cl : Nat} (h : w.ownsRow base e size (.slice a n c) n xs) (hb : w.heap[b]? = some (.map es cl)) : ∀ g, a = some ⟨g, 0, none⟩ → g ≠ b := by
  rintro g hg rfl
  rcases h.2 with ⟨hz0, _⟩ | ⟨g', cap, cur, e', hgb, hh, _⟩
  · simp [hg] at hz0
  · simp only [Value.slice.injEq, hg, Option.some.injEq, Addr.mk.injEq, and_true] at e'
    obtain ⟨rfl, _⟩ := e'
    rw [hb] at hh
    simp at hh

theorem new_any (w : World) (n : Int) (h1 : 1 ≤ n) (h2 : n ≤ 5) : Calls Try.prog 17 #[.int .i64 n] w fun e w' => e = .returned (.tuple #[.pointer (some ⟨w.heap.size + 1, 0, none⟩), .int .i64 0]) ∧ NetAt w' w.heap.size (w.heap.size + 1) n [] [] ∧ Below w.heap.size w w' := by
  have hmm := @run_makeMap Try.prog
  have hs : (w.alloc (.map #[] 0)).heap.size = w.heap.size + 1 := size_new _ _
  have t1 : decide (n < 1) = false := decide_eq_false (by omega)
  have t2 : decide (5 < n) = false := decide_eq_false (by omega)
  have t3 : ¬ n < 1 := by omega
  have t4 : ¬ 5 < n := by omega
  go_enter Try.func17, Try.ntmps17
  go_wp2_with fail
  exact bodyPost_ret (v := .tuple #[.pointer (some ⟨w.heap.size + 1, 0, none⟩), .int .i64 0]) (by simp [results, Try.results17, go_sem]) rfl
    ⟨rfl, ⟨by omega, ⟨none, 0, w.heap.size, by rw [← hs]; exact hp_alloc_new _ _, Nat.le_refl _, (cut_made w).below (below_new1 _ _), World.ownsRow_nil _ _ _ _⟩, by simp⟩, below_new2 _ _ _⟩

theorem len_any (w : World) (base b : Nat) (nodes : Int) (ps : List Pkt) (S : Cuts) (h : NetAt w base b nodes ps S) : Calls Try.prog 13 #[.pointer (some ⟨b, 0, none⟩)] w fun e w' => e = .returned (.int .i64 ps.length) ∧ w = w' := by
  obtain ⟨h1, ⟨a, c, mb, h2, h3, h4, h5⟩, h6⟩ := h
  obtain ⟨c0, c1, c2, f0, f1, f2, hz⟩ := blk3 h2
  clear h2 h4 h5 h6
  go_enter Try.func13, Try.ntmps13
  go_wp2_with fail
  go_ret
  exact ⟨rfl, rfl⟩

theorem heal_any (w : World) (base b : Nat) (nodes : Int) (ps : List Pkt) (S : Cuts) (h : NetAt w base b nodes ps S) (hbw : base ≤ w.heap.size) : Calls Try.prog 12 #[.pointer (some ⟨b, 0, none⟩)] w fun e w' => e = .returned (.int .i64 0) ∧ NetAt w' base b nodes ps [] ∧ Below base w w' ∧ Moved w w' b := by
  obtain ⟨h1, ⟨a, c, mb, h2, h3, h4, h5⟩, h6⟩ := h
  obtain ⟨c0, c1, c2, f0, f1, f2, hz⟩ := blk3 h2
  have hmm := @run_makeMap Try.prog
  have hfin : NetAt ((w.setCell ⟨b, 2, none⟩ (.map (some w.heap.size))).alloc (.map #[] 0)) base b nodes ps [] ∧ Below base w ((w.setCell ⟨b, 2, none⟩ (.map (some w.heap.size))).alloc (.map #[] 0)) ∧ Moved w ((w.setCell ⟨b, 2, none⟩ (.map (some w.heap.size))).alloc (.map #[] 0)) b := by
    have hsz : (w.setCell ⟨b, 2, none⟩ (.map (some w.heap.size))).heap.size = w.heap.size := size_set _ _ _
    have hk : ∀ k, k < w.heap.size → k ≠ b → ((w.setCell ⟨b, 2, none⟩ (.map (some w.heap.size))).alloc (.map #[] 0)).heap[k]? = w.heap[k]? := fun k hk hn => (hp_alloc_old (by rw [hsz]; exact hk)).trans (hp_set_ne hn)
    have hm := cut_made (w.setCell ⟨b, 2, none⟩ (.map (some w.heap.size)))
    rw [hsz] at hm
    refine ⟨⟨h1, ⟨a, c, w.heap.size, hp_new (hp_set h2 2 _), hbw, hm, ?_⟩, ?_⟩, ((Below.refl _ _).setCell (p := ⟨b, 2, none⟩) h1 _).alloc (by rw [hsz]; exact hbw) _, ⟨fun k hk' hn => hk k hk' (fun e => hn (.inl e)), fun k hf => ?_, by rw [size_new, hsz]; omega⟩⟩
    · exact own_kept h5 (fun g hg => hk g (own_from h5 g hg).2 (own_ne h5 h2 (by decide) g hg))
    · intro p hp
      have h5 := h6 p hp
      exact own_kept h5 (fun g hg => hk g (own_from h5 g hg).2 (own_ne h5 h2 (by decide) g hg))
    · rcases (foot_map (hp_new (hp_set h2 2 _)) k).1 hf with h | h | h
      · exact .inl (.inl h)
      · exact .inl ((foot_map h2 k).2 (.inr (.inl h)))
      · exact .inr (by omega)
  have HF := Lib.hid hfin
  clear hfin h2 h4 h5 h6
  go_enter Try.func12, Try.ntmps12
  go_wp2_with fail
  go_ret
  exact ⟨rfl, HF.out⟩

def cadd (S : Cuts) (p : Int × Int) : Cuts := if p ∈ S then S else S ++ [p]
theorem cut_map {w w' : World} {base b mb : Nat} {nodes : Int} {ps : List Pkt} {S S' : Cuts} {a : Option Addr} {c : Nat} (h1 : base ≤ b) (h2 : w.heap[b]? = some (.cells #[.int .i64 nodes, .slice a ps.length c, .map (some mb)] 67 (0, 0))) (h3 : base ≤ mb) (h4 : CutAt w mb S) (h5 : w.ownsRow base 48 3 (.slice a ps.length c) ps.length (pkcells ps))
    (h6 : ∀ p ∈ ps, Body w base p) (hc : CutAt w' mb S') (hg : w.grownBy w' (some mb)) : NetAt w' base b nodes ps S' ∧ Moved w w' b := by
  obtain ⟨es, cl, hm, _⟩ := h4
  obtain ⟨g1, g2, g3, g4, g5⟩ := hg
  have hk : ∀ k, k < w.heap.size → k ≠ mb → w'.heap[k]? = w.heap[k]? := fun k hk hn => g5 k hk (fun e => hn (by cases e; rfl))
  have hbm : b ≠ mb := by rintro rfl; rw [h2] at hm; simp at hm
  exact ⟨⟨h1, ⟨a, c, mb, (hk b (blk h2).2.2 hbm).trans h2, h3, hc, own_kept h5 (fun g hg => hk g (own_from h5 g hg).2 (own_nm h5 hm g hg))⟩, fun p hp => own_kept (h6 p hp) (fun g hg => hk g (own_from (h6 p hp) g hg).2 (own_nm (h6 p hp) hm g hg))⟩,
    ⟨fun k hk' hn => hk k hk' (fun e => hn ((foot_map h2 k).2 (.inr (.inr e)))), fun k hf => .inl ((foot_same (hk b (blk h2).2.2 hbm) k).1 hf), g4⟩⟩

theorem cut_ok (w : World) (base b : Nat) (nodes x y : Int) (ps : List Pkt) (S : Cuts) (h : NetAt w base b nodes ps S) (hbw : base ≤ w.heap.size) (hx : 1 ≤ x ∧ x ≤ nodes) (hy : 1 ≤ y ∧ y ≤ nodes) (hxy : x ≠ y) : Calls Try.prog 15 #[.pointer (some ⟨b, 0, none⟩), .int .i64 x, .int .i64 y] w fun e w' => e = .returned (.int .i64 0) ∧ NetAt w' base b nodes ps (cadd S (pr x y)) ∧ Below base w w' ∧ Moved w w' b := by
  obtain ⟨h1, ⟨a, c, mb, h2, h3, h4, h5⟩, h6⟩ := h
  obtain ⟨c0, c1, c2, f0, f1, f2, hz⟩ := blk3 h2
  have hA := has_any w b nodes x c0
  have hB := has_any w b nodes y c0
  rw [decide_eq_true hx] at hA
  rw [decide_eq_true hy] at hB
  have hst : ∀ w1, Below w.heap.size w w1 → ∃ w2, (Instr.mapUpdate 65 (.map (some mb)) (pk (pr x y)) (.int .i64 1)).run Try.prog w1 = .ok () w2 ∧ NetAt w2 base b nodes ps (cadd S (pr x y)) ∧ Below base w w2 ∧ Moved w w2 b := by
    intro w1 hb1
    obtain ⟨w2, hr, hc2, hg⟩ := cut_store (h4.below hb1) (pr x y)
    obtain ⟨hm1, hm2⟩ := cut_map h1 (hp_step h2 hb1) h3 (h4.below hb1) (own_below h5 hb1) (fun p hp => own_below (h6 p hp) hb1) hc2 hg
    refine ⟨w2, hr, hm1, (Below.mono hb1 hbw).grown hg (Nat.le_trans hbw hb1.size) (fun j hj => ?_), (Moved.of_below hb1 (blk h2).2.2).trans hm2⟩
    simp only [Option.some.injEq] at hj
    omega
  have HST := Lib.hid hst
  have HZ := hz
  have hne : ((x == y) = false) := by simpa using hxy
  have hne2 : (decide (x = y) = false) := by simpa using hxy
  clear hst h2 h4 h5 h6
  go_enter Try.func15, Try.ntmps15
  go_wp2_with fail
  refine hA.mono ?_; rintro e w1 ⟨rfl, rfl⟩
  go_wp2_with fail
  refine hB.mono ?_; rintro e w1 ⟨rfl, rfl⟩
  go_wp2_with fail
  go_region_with (first | (go_at_call 28; refine (pair_any w.drew x y).mono ?_; rintro e w1 ⟨rfl, hb1⟩; have hb1' := below_step (below_drewN (Below.refl _ w) 1) hb1; obtain ⟨w2, hr, hn2, hB2⟩ := HST.out w1 hb1'; have d2 := cell_step c2 hb1'; have HN2 := Lib.hid (And.intro hn2 hB2); clear hn2 hB2 hb1 hb1'))
  all_goals
    go_wp2_with fail
    go_ret
    exact ⟨rfl, HN2.out.1, HN2.out.2⟩

theorem cut_bad (w : World) (base b : Nat) (nodes x y : Int) (ps : List Pkt) (S : Cuts) (h : NetAt w base b nodes ps S) (hn : ¬ ((1 ≤ x ∧ x ≤ nodes) ∧ (1 ≤ y ∧ y ≤ nodes) ∧ x ≠ y)) : Calls Try.prog 15 #[.pointer (some ⟨b, 0, none⟩), .int .i64 x, .int .i64 y] w fun e w' => e = .returned (.int .i64 1) ∧ w = w' := by
  obtain ⟨h1, ⟨a, c, mb, h2, h3, h4, h5⟩, h6⟩ := h
  obtain ⟨c0, c1, c2, f0, f1, f2, hz⟩ := blk3 h2
  have hA := has_any w b nodes x c0
  have hB := has_any w b nodes y c0
  clear h2 h4 h5 h6
  by_cases hx : 1 ≤ x ∧ x ≤ nodes
  · rw [decide_eq_true hx] at hA
    by_cases hy : 1 ≤ y ∧ y ≤ nodes
    · rw [decide_eq_true hy] at hB
      have hxy : x = y := by
        by_cases e : x = y
        · exact e
        · exact absurd ⟨hx, hy, e⟩ hn
      subst hxy
      clear hn
      go_enter Try.func15, Try.ntmps15
      go_wp2_with fail
      refine hA.mono ?_; rintro e w1 ⟨rfl, rfl⟩
      go_wp2_with fail
      refine hB.mono ?_; rintro e w1 ⟨rfl, rfl⟩
      go_wp2_with fail
      go_ret
      exact ⟨rfl, rfl⟩
    · rw [decide_eq_false hy] at hB
      clear hn
      go_enter Try.func15, Try.ntmps15
      go_wp2_with fail
      refine hA.mono ?_; rintro e w1 ⟨rfl, rfl⟩
      go_wp2_with fail
      refine hB.mono ?_; rintro e w1 ⟨rfl, rfl⟩
      go_wp2_with fail
      go_ret
      exact ⟨rfl, rfl⟩
  · rw [decide_eq_false hx] at hA
    clear hn
    go_enter Try.func15, Try.ntmps15
    go_wp2_with fail
    refine hA.mono ?_; rintro e w1 ⟨rfl, rfl⟩
    go_wp2_with fail
    go_ret
    exact ⟨rfl, rfl⟩
end Go.Proofs.Ytnnfagdhigodbaa.nets
