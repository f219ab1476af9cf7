/-
  A net in memory: nodes, pairs, packets copied; New, Len, Heal, Cut.
-/
import Derived.Test.YtnnfagdhigodbaaKit
import Derived.Test.YtnnfagdhigodbaaBytes
import Derived.Test.YtnnfagdhigodbaaNetC
import Derived.Test.YtnnfagdhigodbaaProg
import Derived.Lib.Hide
import Derived.Deep.RegionWith
import Derived.Deep.QuietTactic
import Derived.BigQuiet
namespace Go.Proofs.Ytnnfagdhigodbaa.netg
open Go.ChangeShapes Go.WideShapes Go.ChangeAt Go.RowKit
open Go.Proofs.Ytnnfagdhigodbaa.kit Go.Proofs.Ytnnfagdhigodbaa.byt Go.Proofs.Ytnnfagdhigodbaa.netc
set_option linter.unusedVariables false
set_option linter.unusedSimpArgs false
set_option maxHeartbeats 1000000
set_option maxRecDepth 100000

theorem own_below {w w' : World} {base : Nat} {e : TypeId} {size : Nat} {v : Value} {n : Nat} {xs : List Value} (h : w.ownsRow base e size v n xs) (hb : Below w.heap.size w w') : w'.ownsRow base e size v n xs := by
  obtain ⟨h1, h2⟩ := h
  refine ⟨h1, ?_⟩
  rcases h2 with h2 | ⟨g, cap, cur, hv, hg, hh, r⟩
  · exact .inl h2
  · exact .inr ⟨g, cap, cur, hv, hg, hp_step hh hb, r⟩
theorem own_mono {w : World} {base base' : Nat} {e : TypeId} {size : Nat} {v : Value} {n : Nat} {xs : List Value} (h : w.ownsRow base e size v n xs) (hb : base' ≤ base) : w.ownsRow base' e size v n xs := by
  obtain ⟨h1, h2⟩ := h
  refine ⟨h1, ?_⟩
  rcases h2 with h2 | ⟨g, cap, cur, hv, hg, hh, r⟩
  · exact .inl h2
  · exact .inr ⟨g, cap, cur, hv, by omega, hh, r⟩
theorem own_kept {w w' : World} {base : Nat} {e : TypeId} {size n : Nat} {a : Option Addr} {cap : Nat} {xs : List Value} (h : w.ownsRow base e size (.slice a n cap) n xs) (hk : ∀ g, a = some ⟨g, 0, none⟩ → w'.heap[g]? = w.heap[g]?) : w'.ownsRow base e size (.slice a n cap) n xs := by
  obtain ⟨h1, h2⟩ := h
  refine ⟨h1, ?_⟩
  rcases h2 with h2 | ⟨g', cap', cur, hv, hg, hh, r⟩
  · exact .inl h2
  · have e1 : a = some ⟨g', 0, none⟩ := by simp only [Value.slice.injEq] at hv; exact hv.1
    exact .inr ⟨g', cap', cur, hv, hg, (hk g' e1).trans hh, r⟩
theorem own_from {w : World} {base : Nat} {e : TypeId} {size n c : Nat} {a : Option Addr} {xs : List Value} (h : w.ownsRow base e size (.slice a n c) n xs) : ∀ g, a = some ⟨g, 0, none⟩ → base ≤ g ∧ g < w.heap.size := by
  rintro g rfl
  rcases h.2 with ⟨e', hz⟩ | ⟨g', cap, cur, e', hg, hh, _⟩
  · simp at e'
  · simp only [Value.slice.injEq, Option.some.injEq, Addr.mk.injEq, and_true] at e'
    obtain ⟨rfl, _⟩ := e'
    exact ⟨hg, (blk hh).2.2⟩

theorem has_any (w : World) (nb : Nat) (n k : Int) (h : w.cell? ⟨nb, 0, none⟩ = some (.int .i64 n)) : Calls Try.prog 27 #[.pointer (some ⟨nb, 0, none⟩), .int .i64 k] w fun e w' => e = .returned (.bool (decide (1 ≤ k ∧ k ≤ n))) ∧ w = w' := by
  by_cases h1 : 1 ≤ k
  · by_cases h2 : k ≤ n
    · rw [decide_eq_true ⟨h1, h2⟩]
      go_enter Try.func27, Try.ntmps27
      go_wp2_with fail
      go_ret
      exact ⟨rfl, rfl⟩
    · rw [decide_eq_false (fun h => h2 h.2)]
      have h2' : n < k := by omega
      have h3 : decide (k ≤ n) = false := decide_eq_false h2
      go_enter Try.func27, Try.ntmps27
      go_wp2_with fail
      go_ret
      exact ⟨rfl, rfl⟩
  · rw [decide_eq_false (fun h => h1 h.1)]
    have h1' : k < 1 := by omega
    have h3 : decide (1 ≤ k) = false := decide_eq_false h1
    go_enter Try.func27, Try.ntmps27
    go_wp2_with fail
    go_ret
    exact ⟨rfl, rfl⟩

def pr (a b : Int) : Int × Int := (min a b, max a b)
theorem pair_any (w : World) (a b : Int) : Calls Try.prog 28 #[.int .i64 a, .int .i64 b] w fun e w' => e = .returned (pk (pr a b)) ∧ Below w.heap.size w w' := by
  obtain ⟨p, hp⟩ : ∃ p, (if b < a then b else a) = p := ⟨_, rfl⟩
  obtain ⟨q, hq⟩ : ∃ q, (if a < b then b else a) = q := ⟨_, rfl⟩
  have e : pk (pr a b) = .agg #[.int .i64 p, .int .i64 q] := by
    have e1 : min a b = p := by rw [← hp]; split <;> omega
    have e2 : max a b = q := by rw [← hq]; split <;> omega
    rw [pr, pk, e1, e2]
  rw [e]
  have hb := blk2 (hp_alloc_new w (.cells #[.int .i64 p, .int .i64 q] 69))
  go_enter Try.func28, Try.ntmps28
  go_wp2_with fail
  exact bodyPost_ret (v := .agg #[.int .i64 p, .int .i64 q]) (by simp [results, Try.results28, go_sem, hb, Result.andThen]) rfl ⟨rfl, below_new1 _ _⟩

theorem copied_any (w : World) (f t : Int) (ad : Option Addr) (l : List Nat) (c : Nat) (hl : l.length ≤ 140737488355328) (hn : ad = none → l.length = 0 ∧ c = 0) (hat : Lie w ad (bcells l)) :
    Calls Try.prog 29 #[.agg #[.int .i64 f, .int .i64 t, .slice ad l.length c]] w fun e w' => ∃ a' c', e = .returned (.agg #[.int .i64 f, .int .i64 t, .slice a' l.length c']) ∧ w'.ownsRow w.heap.size 5 1 (.slice a' l.length c') l.length (bcells l) ∧ Below w.heap.size w w' := by
  obtain ⟨w2, hw2⟩ : ∃ w2 : World, w2 = (w.alloc (.cells #[.int .i64 f, .int .i64 t, .slice ad l.length c] 48)).alloc (.cells #[.int .i64 0, .int .i64 0, .slice none 0 0] 48) := ⟨_, rfl⟩
  have hn2 := new2 w (.cells #[.int .i64 f, .int .i64 t, .slice ad l.length c] 48) (.cells #[.int .i64 0, .int .i64 0, .slice none 0 0] 48)
  have hB2 := below_new2 w (.cells #[.int .i64 f, .int .i64 t, .slice ad l.length c] 48) (.cells #[.int .i64 0, .int .i64 0, .slice none 0 0] 48)
  rw [← hw2] at hn2 hB2
  have hC := clone_any l ad c w2 hl hn (hat.below hB2)
  have HC := Lib.hid hC
  have HN := Lib.hid hn2
  have HW := Lib.hid hw2
  clear hat hC hn2 hw2 hn
  go_enter Try.func29, Try.ntmps29
  go_wp2_with fail
  rw [← HW.out]
  refine HC.out.mono ?_; rintro e w3 ⟨v, rfl, hv, hb3⟩
  have hv' := hv
  obtain ⟨ao, cap, rfl, -, -, -⟩ := owned_lie hv
  have h1 := hp_step HN.out.1 hb3
  have h2 := hp_step HN.out.2.1 hb3
  obtain ⟨a0, a1, a2, _, _, g2, z1⟩ := blk3 h1
  obtain ⟨b0, b1, b2, f0, f1, f2, z2⟩ := blk3 h2
  have hB3 : Below w.heap.size w w3 := below_step hB2 hb3
  have hsz : w2.heap.size = w.heap.size + 1 + 1 := HN.out.2.2
  have hEnd : ∃ WF : World, WF = ((((w3.setCell ⟨w.heap.size, 2, none⟩ (.slice ao l.length cap)).setCell ⟨w.heap.size + 1, 0, none⟩ (.int .i64 f)).setCell ⟨w.heap.size + 1, 1, none⟩ (.int .i64 t)).setCell ⟨w.heap.size + 1, 2, none⟩ (.slice ao l.length cap)) ∧
      WF.heap[w.heap.size + 1]? = some (.cells #[.int .i64 f, .int .i64 t, .slice ao l.length cap] 48 (0, 0)) ∧ WF.ownsRow w.heap.size 5 1 (.slice ao l.length cap) l.length (bcells l) ∧ Below w.heap.size w WF := by
    refine ⟨_, rfl, hp_set (hp_set (hp_set ((hp_set_ne (show w.heap.size + 1 ≠ w.heap.size by omega)).trans h2) 0 _) 1 _) 2 _, ?_,
      (((hB3.setCell (p := ⟨w.heap.size, 2, none⟩) (Nat.le_refl _) _).setCell (p := ⟨w.heap.size + 1, 0, none⟩) (by simp) _).setCell (p := ⟨w.heap.size + 1, 1, none⟩) (by simp) _).setCell (p := ⟨w.heap.size + 1, 2, none⟩) (by simp) _⟩
    refine own_kept (own_mono hv (by omega)) (fun g hg => ?_)
    have hgs := (own_from hv g hg).1
    have n0 : g ≠ w.heap.size := by omega
    have n1 : g ≠ w.heap.size + 1 := by omega
    exact (hp_set_ne (a := ⟨w.heap.size + 1, 2, none⟩) n1).trans ((hp_set_ne (a := ⟨w.heap.size + 1, 1, none⟩) n1).trans ((hp_set_ne (a := ⟨w.heap.size + 1, 0, none⟩) n1).trans (hp_set_ne (a := ⟨w.heap.size, 2, none⟩) n0)))
  have HE := Lib.hid hEnd
  clear hv hv' hb3 h1 h2 hB3 hEnd
  go_wp2_with fail
  obtain ⟨WF, hWF, hr, ho, hB⟩ := HE.out
  rw [← hWF]
  obtain ⟨r0, r1, r2, _⟩ := blk3 hr
  clear hWF a0 a1 a2 b0 b1 b2
  exact bodyPost_ret (v := .agg #[.int .i64 f, .int .i64 t, .slice ao l.length cap]) (by simp [results, Try.results29, go_sem, r0, r1, r2, Result.andThen]) rfl ⟨ao, cap, rfl, ho, hB⟩
end Go.Proofs.Ytnnfagdhigodbaa.netg
