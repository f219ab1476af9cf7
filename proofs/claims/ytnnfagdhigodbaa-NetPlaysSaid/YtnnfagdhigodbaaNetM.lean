/-
  The document's net in memory: Cut, Take, Double, Send.
-/
import Derived.Test.YtnnfagdhigodbaaNetK
import Derived.Test.YtnnfagdhigodbaaNetR
namespace Go.Proofs.Ytnnfagdhigodbaa.netm
open Go.ChangeShapes Go.WideShapes Go.ChangeAt Go.RowKit Go.Shelf
open Go.Proofs.Ytnnfagdhigodbaa.kit Go.Proofs.Ytnnfagdhigodbaa.byt Go.Proofs.Ytnnfagdhigodbaa.netc Go.Proofs.Ytnnfagdhigodbaa.netg Go.Proofs.Ytnnfagdhigodbaa.nets Go.Proofs.Ytnnfagdhigodbaa.nett Go.Proofs.Ytnnfagdhigodbaa.netd Go.Proofs.Ytnnfagdhigodbaa.nete Go.Proofs.Ytnnfagdhigodbaa.netf Go.Proofs.Ytnnfagdhigodbaa.netq Go.Proofs.Ytnnfagdhigodbaa.netk
set_option linter.unusedVariables false
set_option linter.unusedSimpArgs false
set_option maxHeartbeats 1000000
set_option maxRecDepth 100000

theorem lie_new2 (w : World) (a b : Value) (T : TypeId) : Lie (w.alloc (.cells #[a, b] T)) (some ⟨w.heap.size, 0, none⟩) [a, b] := by
  refine .inr ⟨_, 0, rfl, by rw [size_new]; omega, fun i hi => ?_⟩
  have hb := blk (hp_alloc_new w (.cells #[a, b] T))
  rw [Nat.zero_add, hb.1]
  match i, hi with
  | 0, _ => rfl
  | 1, _ => rfl

/-- What a store of a new row of packets leaves: of W all else is as in w. -/
theorem ref_rows {w W : World} {base b : Nat} {nodes : Int} {rs rs' : List Pkt} {Cs : Cuts} {a a2 a' : Option Addr} {c c2 c' : Nat} (h1 : base ≤ b) (h2 : w.heap[b]? = some (.cells #[.int .i64 nodes, .slice a rs.length c, .slice a2 Cs.length c2] 51 (0, 0))) (h3 : w.ownsRow base 48 3 (.slice a rs.length c) rs.length (pkcells rs)) (h4 : w.ownsRow base 80 2 (.slice a2 Cs.length c2) Cs.length (cucells Cs))
    (hW : W.heap[b]? = some (.cells #[.int .i64 nodes, .slice a' rs'.length c', .slice a2 Cs.length c2] 51 (0, 0))) (hown : W.ownsRow base 48 3 (.slice a' rs'.length c') rs'.length (pkcells rs')) (hbd : ∀ p ∈ rs', Body W base p)
    (hk : ∀ k, k < w.heap.size → k ≠ b → (∀ g, a = some ⟨g, 0, none⟩ → k ≠ g) → W.heap[k]? = w.heap[k]?) (hat : ∀ g, a' = some ⟨g, 0, none⟩ → a = some ⟨g, 0, none⟩ ∨ w.heap.size ≤ g) (hs : w.heap.size ≤ W.heap.size) :
    RefAt W base b nodes rs' Cs ∧ Moved w W b := by
  refine ⟨⟨h1, ⟨a', c', a2, c2, hW, hown, own_kept h4 (fun g hg => ?_)⟩, hbd⟩, ⟨fun k hk' hn => hk k hk' (fun e => hn (.inl e)) (fun g hg e => hn ((foot_two h2 k).2 (.inr (.inl (by rw [hg, e]))))), fun k hf => ?_, hs⟩⟩
  · obtain ⟨cur, hcur⟩ := own_heap h4 g hg
    refine hk g (blk hcur).2.2 (own_ne h4 h2 (by decide) g hg) (fun g' hg' e => ?_)
    subst e
    obtain ⟨cur', hcur'⟩ := own_heap h3 g hg'
    rw [hcur] at hcur'
    simp at hcur'
  · rcases (foot_two hW k).1 hf with h | h | h
    · exact .inl (.inl h)
    · rcases hat k h with h' | h'
      · exact .inl ((foot_two h2 k).2 (.inr (.inl h')))
      · exact .inr h'
    · exact .inl ((foot_two h2 k).2 (.inr (.inr h)))

theorem rcut_ok (w : World) (base b : Nat) (nodes x y : Int) (rs : List Pkt) (Cs : Cuts) (h : RefAt w base b nodes rs Cs) (hbw : base ≤ w.heap.size) (hx : isN nodes x) (hy : isN nodes y) (hxy : x ≠ y) (hlen : Cs.length ≤ 3518437208884) : Calls Try.prog 33 #[.pointer (some ⟨b, 0, none⟩), .int .i64 x, .int .i64 y] w fun e w' => e = .returned (.int .i64 0) ∧ RefAt w' base b nodes rs (Cs ++ [(x, y)]) ∧ Below base w w' ∧ Moved w w' b := by
  obtain ⟨j0, hj, hy0, hy1, hy2⟩ := info_parts infoPair
  have hR := h
  obtain ⟨h1, ⟨a, c, a2, c2, h2, h3, h4⟩, h6⟩ := h
  obtain ⟨d0, d1, d2, f0, f1, f2, hz⟩ := blk3 h2
  have hA := ris_any w b nodes x d0
  have hB := ris_any w b nodes y d0
  rw [show decide (1 ≤ x ∧ x ≤ nodes) = true from decide_eq_true hx] at hA
  rw [show decide (1 ≤ y ∧ y ≤ nodes) = true from decide_eq_true hy] at hB
  have hfin : ∀ (w5 : World) (v5 : Value), w5.ownsRow base 80 2 v5 (Cs.length + 1) (cucells Cs ++ [.int .i64 x, .int .i64 y]) → (w.alloc (.cells #[.int .i64 x, .int .i64 y] 80)).grownBy w5 (Value.slice a2 Cs.length c2).ownBlock → (∀ k, v5.ownBlock = some k → (Value.slice a2 Cs.length c2).ownBlock = some k ∨ (w.alloc (.cells #[.int .i64 x, .int .i64 y] 80)).heap.size ≤ k) →
      RefAt (w5.setCell ⟨b, 2, none⟩ v5) base b nodes rs (Cs ++ [(x, y)]) ∧ (Below base w (w5.setCell ⟨b, 2, none⟩ v5) ∧ Moved w (w5.setCell ⟨b, 2, none⟩ v5) b) ∧ ∃ v, w5.cell? ⟨b, 2, none⟩ = some v ∧ w5.frozen? ⟨b, 2, none⟩ = false := by
    intro w5 v5 hown hg hat
    obtain ⟨a', c', rfl⟩ := own_shape hown
    have hk0 : ∀ k, k < w.heap.size → (∀ g, a2 = some ⟨g, 0, none⟩ → g ≠ k) → w5.heap[k]? = w.heap[k]? := fun k hk hn => (hg.block k (by rw [size_new]; omega) (fun e => hn k (own_block h4 k e.symm) rfl)).trans (hp_alloc_old hk)
    have hb5 := (hk0 b hz (own_ne h4 h2 (by decide))).trans h2
    have hk : ∀ k, k < w.heap.size → (∀ g, a2 = some ⟨g, 0, none⟩ → g ≠ k) → k ≠ b → (w5.setCell ⟨b, 2, none⟩ (.slice a' (Cs.length + 1) c')).heap[k]? = w.heap[k]? := fun k hk hn hb => (hp_set_ne hb).trans (hk0 k hk hn)
    have hsz : w.heap.size ≤ w5.heap.size := by have := hg.size; rw [size_new] at this; omega
    have hB5 : Below base w w5 := ((Below.refl _ w).alloc hbw _).grown hg (by rw [size_new]; omega) (fun j hj => (own_from h4 j (own_block h4 j hj)).1)
    refine ⟨⟨h1, ⟨a, c, a', c', by rw [List.length_append]; exact hp_set hb5 2 _, own_kept h3 (fun g hg' => ?_), ?_⟩, fun p hp => own_kept (h6 p hp) (fun g hg' => ?_)⟩, ⟨hB5.setCell (p := ⟨b, 2, none⟩) h1 _, ⟨fun k hk' hn => hk k hk' (fun g hg' e => hn ((foot_two h2 k).2 (.inr (.inr (by rw [hg', e]))))) (fun e => hn (.inl e)), fun k hf => ?_, by rw [size_set]; exact hsz⟩⟩, _, (blk3 hb5).2.2.1, (blk3 hb5).2.2.2.2.2.1⟩
    · obtain ⟨cur, hcur⟩ := own_heap h3 g hg'
      exact hk g (blk hcur).2.2 (own_ne h4 hcur (by decide)) (own_ne h3 h2 (by decide) g hg')
    · rw [List.length_append, cucells_append]
      exact own_kept hown (fun g hg' => hp_set_ne (own_ne hown hb5 (by decide) g hg'))
    · obtain ⟨cur, hcur⟩ := own_heap (h6 p hp) g hg'
      exact hk g (blk hcur).2.2 (own_ne h4 hcur (by decide)) (own_ne (h6 p hp) h2 (by decide) g hg')
    · rcases (foot_two (hp_set hb5 2 _) k).1 hf with h | h | h
      · exact .inl (.inl h)
      · exact .inl ((foot_two h2 k).2 (.inr (.inl h)))
      · rcases hat k (by rw [h]; rfl) with h' | h'
        · exact .inl ((foot_two h2 k).2 (.inr (.inr (own_block h4 k h'))))
        · rw [size_new] at h'
          exact .inr (by omega)
  have HFIN := Lib.hid hfin
  have HO := Lib.hid h4
  have hne : ((x == y) = false) := by simpa using hxy
  have hne2 : (decide (x = y) = false) := by simpa using hxy
  clear hfin h2 h3 h4 h6 hR
  go_enter Try.func33, Try.ntmps33
  go_wp2_with fail
  refine hA.mono ?_; rintro e w1 ⟨rfl, rfl⟩
  go_wp2_with fail
  refine hB.mono ?_; rintro e w1 ⟨rfl, rfl⟩
  go_wp2_with (at_builtin; refine wpl_append_at rfl (.tmp 26) (.tmp 30) 49 rfl base 80 j0 _ 2 16 Try.underlying49 hj hy0 hy1 hy2 rfl (by decide) (.slice a2 Cs.length c2) Cs.length (cucells Cs) rfl (HO.out.alloc _) ⟨w.heap.size, 0, none⟩ 1 1 [.int .i64 x, .int .i64 y] rfl rfl (lie_new2 _ _ _ _) (by simp [Value.oneCell']) (by unfold maxLen; omega) (by omega) (by rw [size_new]; omega) ?_; intro v5 w5 hown hgr hat5; obtain ⟨a5, c5, rfl⟩ := own_shape hown; obtain ⟨hF1, hF2, vo, hF3, hF4⟩ := HFIN.out w5 _ hown hgr hat5; have HF := Lib.hid (And.intro hF1 hF2); clear hF1 hF2 hown hgr hat5)
  go_ret
  exact ⟨rfl, HF.out.1, HF.out.2⟩

theorem rcut_bad (w : World) (base b : Nat) (nodes x y : Int) (rs : List Pkt) (Cs : Cuts) (h : RefAt w base b nodes rs Cs) (hn : ¬ cutM nodes x y) : Calls Try.prog 33 #[.pointer (some ⟨b, 0, none⟩), .int .i64 x, .int .i64 y] w fun e w' => e = .returned (.int .i64 1) ∧ w = w' := by
  obtain ⟨h1, ⟨a, c, a2, c2, h2, h3, h4⟩, h6⟩ := h
  obtain ⟨d0, d1, d2, f0, f1, f2, hz⟩ := blk3 h2
  have hA := ris_any w b nodes x d0
  have hB := ris_any w b nodes y d0
  clear h2 h3 h4 h6
  by_cases hx : isN nodes x
  · rw [show decide (1 ≤ x ∧ x ≤ nodes) = true from decide_eq_true hx] at hA
    by_cases hy : isN nodes y
    · rw [show decide (1 ≤ y ∧ y ≤ nodes) = true from decide_eq_true hy] at hB
      have hxy : x = y := by
        by_cases e : x = y
        · exact e
        · exact absurd ⟨hx, hy, e⟩ hn
      subst hxy
      clear hn
      go_enter Try.func33, Try.ntmps33
      go_wp2_with fail
      refine hA.mono ?_; rintro e w1 ⟨rfl, rfl⟩
      go_wp2_with fail
      refine hB.mono ?_; rintro e w1 ⟨rfl, rfl⟩
      go_wp2_with fail
      go_ret
      exact ⟨rfl, rfl⟩
    · rw [show decide (1 ≤ y ∧ y ≤ nodes) = false from decide_eq_false hy] at hB
      clear hn
      go_enter Try.func33, Try.ntmps33
      go_wp2_with fail
      refine hA.mono ?_; rintro e w1 ⟨rfl, rfl⟩
      go_wp2_with fail
      refine hB.mono ?_; rintro e w1 ⟨rfl, rfl⟩
      go_wp2_with fail
      go_ret
      exact ⟨rfl, rfl⟩
  · rw [show decide (1 ≤ x ∧ x ≤ nodes) = false from decide_eq_false hx] at hA
    clear hn
    go_enter Try.func33, Try.ntmps33
    go_wp2_with fail
    refine hA.mono ?_; rintro e w1 ⟨rfl, rfl⟩
    go_wp2_with fail
    go_ret
    exact ⟨rfl, rfl⟩
end Go.Proofs.Ytnnfagdhigodbaa.netm
