/-
  Two boxes with the same pieces, in plain Lean.
-/
import Derived.Test.YtgpkenbefolegaaDoorBackPlain
namespace Go.Proofs.YtgpkenbefolegaaDoor.box
open Go.Proofs.YtgpkenbefolegaaDoor.byt Go.Proofs.YtgpkenbefolegaaDoor.sum Go.Proofs.YtgpkenbefolegaaDoor.cut
set_option linter.unusedVariables false
set_option linter.unusedSimpArgs false

/-- Which pieces a box has. -/
def Has (V : BoxV) (P : Nat → Prop) : Prop := ∀ i, (V.get i).isSome = true ↔ P i
theorem has_empty (P : Nat → Prop) (h : ∀ i, ¬ P i) : Has empty P := fun i => by simp [empty, h i]
theorem has_put {l : List Nat} {V : BoxV} {i : Nat} {p : PieceV} {P : Nat → Prop} (h : ∀ j, (putV V p).1.get j = if j = i then some (cut.part l i) else V.get j) (hP : Has V P) : Has (putV V p).1 (fun j => P j ∨ j = i) := by
  intro j
  rw [h]
  by_cases e : j = i
  · simp [e]
  · rw [if_neg e, hP j]
    simp [e]
theorem Has.iff {V : BoxV} {P Q : Nat → Prop} (h : Has V P) (hPQ : ∀ i, P i ↔ Q i) : Has V Q := fun i => (h i).trans (hPQ i)
theorem same_get {l : List Nat} {V W : BoxV} {P : Nat → Prop} (hV : SomeOf l V) (hW : SomeOf l W) (h1 : Has V P) (h2 : Has W P) : V.get = W.get := by
  funext i
  have e := (h1 i).trans (h2 i).symm
  cases h3 : V.get i with
  | none =>
    cases h4 : W.get i with
    | none => rfl
    | some d => rw [h3, h4] at e; simp at e
  | some d =>
    cases h4 : W.get i with
    | none => rw [h3, h4] at e; simp at e
    | some d2 => rw [(hV.get i d h3).2, (hW.get i d2 h4).2]
theorem same_miss {l : List Nat} {V W : BoxV} (hV : SomeOf l V) (hW : SomeOf l W) (h : V.get = W.get) : missV V = missV W := by
  have hc : V.cnt = W.cnt := by simp only [BoxV.cnt, h]
  unfold missV
  rw [← hc, ← h]
  split
  · rfl
  · next h0 => rw [(hV.all (by omega)).1, (hW.all (by omega)).1]
/-- What is lacking is not there; and where nothing is there, nothing was put. -/
theorem miss_not {V : BoxV} {P : Nat → Prop} (h : Has V P) (h0 : (∃ i, P i) → V.cnt ≠ 0) (e : Nat) (he : e ∈ missV V) : ¬ P e := by
  intro hp
  unfold missV at he
  rw [if_neg (h0 ⟨e, hp⟩)] at he
  have h1 := (h e).2 hp
  simp only [List.mem_filter] at he
  cases hg : V.get e with
  | none => rw [hg] at h1; cases h1
  | some d => rw [hg] at he; simp at he
theorem cnt_has {l : List Nat} {V : BoxV} {P : Nat → Prop} (hl : l.length ≤ 8192) (hV : SomeOf l V) (h : Has V P) : (∃ i, P i) → V.cnt ≠ 0 := by
  rintro ⟨i, hp⟩ h0
  have h1 := (h i).2 hp
  cases hg : V.get i with
  | none => rw [hg] at h1; cases h1
  | some d =>
    have := (hV.get i d hg).1
    have hn := nOf_le16 hl
    rw [cntN_zero h0 i (by omega)] at hg
    cases hg
end Go.Proofs.YtgpkenbefolegaaDoor.box
