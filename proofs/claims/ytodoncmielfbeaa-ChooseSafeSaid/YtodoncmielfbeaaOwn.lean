/-
  Lemmas about no program: rows of memory of its own.
-/
import Derived.Test.YtodoncmielfbeaaKit
import Derived.Maps.AppendAt
namespace Go.Proofs.Ytodoncmielfbeaa.own
open Go.RowKit
open Go.Proofs.Ytodoncmielfbeaa.kit
set_option linter.unusedVariables false
set_option linter.unusedSimpArgs false
set_option maxHeartbeats 1000000

theorem own_below {w w' : World} {base : Nat} {e : TypeId} {size : Nat} {v : Value} {n : Nat} {xs : List Value} (h : w.ownsRow base e size v n xs) (hb : Below w.heap.size w w') : w'.ownsRow base e size v n xs := by
  obtain ⟨h1, h2⟩ := h
  refine ⟨h1, ?_⟩
  rcases h2 with h2 | ⟨g, cap, cur, hv, hg, hh, r⟩
  · exact .inl h2
  · exact .inr ⟨g, cap, cur, hv, hg, hp_step hh hb, r⟩
theorem own_mono {w : World} {base base' : Nat} {e : TypeId} {size : Nat} {v : Value} {n : Nat} {xs : List Value} (h : w.ownsRow base e size v n xs) (hb : base' ≤ base) : w.ownsRow base' e size v n xs := by
  obtain ⟨h1, h2⟩ := h
  refine ⟨h1, ?_⟩
  rcases h2 with h2 | ⟨g, cap, cur, hv, hg, hh, r⟩
  · exact .inl h2
  · exact .inr ⟨g, cap, cur, hv, by omega, hh, r⟩
theorem own_kept {w w' : World} {base : Nat} {e : TypeId} {size n : Nat} {a : Option Addr} {cap : Nat} {xs : List Value} (h : w.ownsRow base e size (.slice a n cap) n xs) (hk : ∀ g, a = some ⟨g, 0, none⟩ → w'.heap[g]? = w.heap[g]?) : w'.ownsRow base e size (.slice a n cap) n xs := by
  obtain ⟨h1, h2⟩ := h
  refine ⟨h1, ?_⟩
  rcases h2 with h2 | ⟨g', cap', cur, hv, hg, hh, r⟩
  · exact .inl h2
  · have e1 : a = some ⟨g', 0, none⟩ := by simp only [Value.slice.injEq] at hv; exact hv.1
    exact .inr ⟨g', cap', cur, hv, hg, (hk g' e1).trans hh, r⟩
theorem own_from {w : World} {base : Nat} {e : TypeId} {size n c : Nat} {a : Option Addr} {xs : List Value} (h : w.ownsRow base e size (.slice a n c) n xs) : ∀ g, a = some ⟨g, 0, none⟩ → base ≤ g ∧ g < w.heap.size := by
  rintro g rfl
  rcases h.2 with ⟨e', hz⟩ | ⟨g', cap, cur, e', hg, hh, _⟩
  · simp at e'
  · simp only [Value.slice.injEq, Option.some.injEq, Addr.mk.injEq, and_true] at e'
    obtain ⟨rfl, _⟩ := e'
    exact ⟨hg, (blk hh).2.2⟩
theorem own_ne {w : World} {base : Nat} {e T : TypeId} {size n c b : Nat} {a : Option Addr} {xs : List Value} {cs : Array Value} (h : w.ownsRow base e size (.slice a n c) n xs) (hb : w.heap[b]? = some (.cells cs T (0, 0))) (ht : T ≠ e) : ∀ g, a = some ⟨g, 0, none⟩ → g ≠ b := by
  rintro g hg rfl
  rcases h.2 with ⟨hz0, _⟩ | ⟨g', cap, cur, e', hgb, hh, _⟩
  · simp [hg] at hz0
  · simp only [Value.slice.injEq, hg, Option.some.injEq, Addr.mk.injEq, and_true] at e'
    obtain ⟨rfl, _⟩ := e'
    rw [hb] at hh
    simp only [Option.some.injEq, Obj.cells.injEq] at hh
    exact ht hh.2.1
theorem own_ptr {w : World} {base : Nat} {e : TypeId} {size n c : Nat} {a : Option Addr} {xs : List Value} (h : w.ownsRow base e size (.slice a n c) n xs) (hn : 0 < n) : ∃ g, a = some ⟨g, 0, none⟩ := by
  rcases h.2 with ⟨hz, h0⟩ | ⟨g', c', cur, e', _⟩
  · omega
  · simp only [Value.slice.injEq] at e'
    exact ⟨g', e'.1⟩
theorem own_heap {w : World} {base : Nat} {e : TypeId} {size n c : Nat} {a : Option Addr} {xs : List Value} (h : w.ownsRow base e size (.slice a n c) n xs) : ∀ g, a = some ⟨g, 0, none⟩ → ∃ cur, w.heap[g]? = some (.cells cur e (0, 0)) := by
  rintro g rfl
  rcases h.2 with ⟨hz0, _⟩ | ⟨g', cap, cur, e', hgb, hh, _⟩
  · simp at hz0
  · simp only [Value.slice.injEq, Option.some.injEq, Addr.mk.injEq, and_true] at e'
    obtain ⟨rfl, _⟩ := e'
    exact ⟨cur, hh⟩
theorem own_block {w : World} {base : Nat} {e : TypeId} {size n c : Nat} {a : Option Addr} {xs : List Value} (h : w.ownsRow base e size (.slice a n c) n xs) : ∀ j, (Value.slice a n c).ownBlock = some j → a = some ⟨j, 0, none⟩ := by
  intro j hj
  rcases h.2 with ⟨hz0, _⟩ | ⟨g', cap, cur, e', hgb, hh, _⟩
  · rw [hz0] at hj; simp [Value.ownBlock] at hj
  · rw [e'] at hj
    simp [Value.ownBlock] at hj
    subst hj
    simp only [Value.slice.injEq] at e'
    exact e'.1
theorem own_shape {w : World} {base : Nat} {e : TypeId} {size : Nat} {v : Value} {n : Nat} {xs : List Value} (h : w.ownsRow base e size v n xs) : ∃ a c, v = .slice a n c := by
  rcases h.2 with ⟨rfl, rfl⟩ | ⟨g, cap, cur, rfl, hg, hh, hc, hm, hsz, hx⟩
  · exact ⟨none, 0, rfl⟩
  · exact ⟨_, cap, rfl⟩
end Go.Proofs.Ytodoncmielfbeaa.own
