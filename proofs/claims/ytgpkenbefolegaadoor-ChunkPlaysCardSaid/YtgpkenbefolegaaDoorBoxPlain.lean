/-
  A box of pieces, in plain Lean: what it takes, lacks and has.
-/
import Derived.Test.YtgpkenbefolegaaDoorCut
namespace Go.Proofs.YtgpkenbefolegaaDoor.box
open Go.Proofs.YtgpkenbefolegaaDoor.byt Go.Proofs.YtgpkenbefolegaaDoor.sum Go.Proofs.YtgpkenbefolegaaDoor.cut
set_option linter.unusedVariables false
set_option linter.unusedSimpArgs false

structure BoxV where
  tot : Int
  sum : Nat
  get : Nat → Option (List Nat)

def mayP (p : PieceV) : Bool :=
  if p.tot < 1 ∨ 16 < p.tot ∨ p.pos < 0 ∨ p.tot ≤ p.pos then false
  else if p.pos < p.tot - 1 then p.data.length == 512
  else decide (p.data.length ≤ 512) && (decide (0 < p.data.length) || p.tot == 1)

def cntN (n : Nat) (g : Nat → Option (List Nat)) : Nat := ((List.range n).filter fun i => (g i).isSome).length
def updG (g : Nat → Option (List Nat)) (i : Nat) (d : List Nat) : Nat → Option (List Nat) := fun j => if j = i then some d else g j
def BoxV.cnt (V : BoxV) : Nat := cntN 16 V.get

theorem cntN_succ (n : Nat) (g : Nat → Option (List Nat)) : cntN (n + 1) g = cntN n g + if (g n).isSome then 1 else 0 := by
  simp only [cntN, List.range_succ, List.filter_append, List.length_append]
  cases h : (g n).isSome <;> simp [h]
theorem cntN_upd (g : Nat → Option (List Nat)) (i : Nat) (d : List Nat) : ∀ n, cntN n (updG g i d) = if n ≤ i ∨ (g i).isSome = true then cntN n g else cntN n g + 1
  | 0 => by simp [cntN]
  | n + 1 => by
    rw [cntN_succ, cntN_succ, cntN_upd g i d n]
    by_cases h1 : n = i
    · subst h1
      have : updG g n d n = some d := by simp [updG]
      rw [this]
      cases h : (g n).isSome <;> simp
    · have : updG g i d n = g n := by simp [updG, h1]
      rw [this]
      by_cases h2 : (g i).isSome = true
      · simp [h2]
      · by_cases h3 : n ≤ i
        · have h4 : n + 1 ≤ i := by omega
          simp [h3, h4]
        · have h4 : ¬ n + 1 ≤ i := by omega
          have h5 : (g i).isSome = false := by simpa using h2
          simp only [h3, h4, h5, false_or, if_false, Bool.false_eq_true]
          omega
theorem cntN_le (g : Nat → Option (List Nat)) (n : Nat) : cntN n g ≤ n := by
  have := List.length_filter_le (fun i => (g i).isSome) (List.range n)
  simpa [cntN] using this
theorem cntN_zero {n : Nat} {g : Nat → Option (List Nat)} (h : cntN n g = 0) (i : Nat) (hi : i < n) : g i = none := by
  induction n with
  | zero => omega
  | succ n ih =>
    rw [cntN_succ] at h
    by_cases e : i = n
    · subst e
      cases hg : g i with
      | none => rfl
      | some d => simp [hg] at h
    · exact ih (by omega) (by omega)
theorem cntN_none (n : Nat) (g : Nat → Option (List Nat)) (h : ∀ i, i < n → g i = none) : cntN n g = 0 := by
  induction n with
  | zero => rfl
  | succ n ih => rw [cntN_succ, ih (fun i hi => h i (by omega)), h n (by omega)]; rfl
theorem cntN_more (g : Nat → Option (List Nat)) (m : Nat) : ∀ n, m ≤ n → (∀ i, m ≤ i → i < n → g i = none) → cntN n g = cntN m g
  | 0, h, _ => by obtain rfl : m = 0 := by omega
                  rfl
  | n + 1, h, hg => by
    by_cases e : m = n + 1
    · rw [e]
    · rw [cntN_succ, cntN_more g m n (by omega) (fun i h1 h2 => hg i h1 (by omega)), hg n (by omega) (by omega)]; rfl
theorem cntN_full (g : Nat → Option (List Nat)) : ∀ n, cntN n g = n → ∀ i, i < n → g i ≠ none
  | 0, _, i, hi => by omega
  | n + 1, h, i, hi => by
    rw [cntN_succ] at h
    have h1 := cntN_le g n
    cases hg : g n with
    | none => simp [hg] at h; omega
    | some d =>
      simp [hg] at h
      by_cases e : i = n
      · subst e; simp [hg]
      · exact cntN_full g n h i (by omega)
theorem cntN_all (g : Nat → Option (List Nat)) : ∀ n, (∀ i, i < n → g i ≠ none) → cntN n g = n
  | 0, _ => rfl
  | n + 1, h => by
    rw [cntN_succ, cntN_all g n fun i hi => h i (by omega)]
    cases hg : g n with
    | none => exact absurd hg (h n (by omega))
    | some d => simp

/-- What a box holds is in order. -/
structure WF (V : BoxV) : Prop where
  le : V.tot ≤ 16
  pos : 0 ≤ V.tot
  sum : V.sum < 4294967296
  one : 0 < V.cnt → 1 ≤ V.tot
  get : ∀ i d, V.get i = some d → (i : Int) < V.tot ∧ d.length ≤ 512 ∧ Byt d

def empty : BoxV := ⟨0, 0, fun _ => none⟩
theorem empty_cnt : empty.cnt = 0 := cntN_none _ _ fun _ _ => rfl
theorem empty_wf : WF empty := ⟨by decide, by decide, by decide, by rw [empty_cnt]; omega, by intro i d h; cases h⟩

def putV (V : BoxV) (p : PieceV) : BoxV × Int :=
  if mayP p = false then (V, 21)
  else if 0 < V.cnt ∧ (V.tot ≠ p.tot ∨ V.sum ≠ p.sum) then (V, 120)
  else match V.get p.pos.toNat with
    | some d => if d = p.data then (⟨p.tot, p.sum, updG V.get p.pos.toNat p.data⟩, 0) else (V, 120)
    | none => (⟨p.tot, p.sum, updG V.get p.pos.toNat p.data⟩, 0)

theorem may_true {p : PieceV} (h : mayP p = true) : 1 ≤ p.tot ∧ p.tot ≤ 16 ∧ 0 ≤ p.pos ∧ p.pos < p.tot ∧ p.data.length ≤ 512 := by
  unfold mayP at h
  split at h
  · cases h
  · split at h <;> simp at h <;> omega

theorem put_ok {V : BoxV} {p : PieceV} (h : (putV V p).2 = 0) : mayP p = true ∧ (V.cnt = 0 ∨ V.tot = p.tot ∧ V.sum = p.sum) ∧ (V.get p.pos.toNat = none ∨ V.get p.pos.toNat = some p.data) ∧ (putV V p).1 = ⟨p.tot, p.sum, updG V.get p.pos.toNat p.data⟩ := by
  unfold putV at h ⊢
  split at h
  · simp at h
  · next h1 =>
    split at h
    · simp at h
    · next h2 =>
      rw [if_neg h1, if_neg h2]
      have h1' : mayP p = true := by simpa using h1
      refine ⟨h1', ?_, ?_⟩
      · by_cases h0 : V.cnt = 0
        · exact .inl h0
        · refine .inr ⟨?_, ?_⟩
          · apply Decidable.byContradiction; intro hn; exact h2 ⟨by omega, .inl hn⟩
          · apply Decidable.byContradiction; intro hn; exact h2 ⟨by omega, .inr hn⟩
      · split at h
        · next d hd =>
          split at h
          · next e => subst e; rw [hd]; simp
          · simp at h
        · next hd => rw [hd]; simp
theorem put_no {V : BoxV} {p : PieceV} (h : (putV V p).2 ≠ 0) : (putV V p).1 = V := by
  unfold putV at h ⊢
  split
  · rfl
  · split
    · rfl
    · next h1 h2 =>
      rw [if_neg h1, if_neg h2] at h
      split at h
      · split at h
        · simp at h
        · next hd hne => simp [hd, hne]
      · simp at h

theorem put_cnt {V : BoxV} {p : PieceV} (h : (putV V p).2 = 0) : 0 < (putV V p).1.cnt ∧ (putV V p).1.cnt = if (V.get p.pos.toNat).isSome then V.cnt else V.cnt + 1 := by
  obtain ⟨h1, h2, h3, h4⟩ := put_ok h
  have hm := may_true h1
  rw [h4]
  have e : (BoxV.mk p.tot p.sum (updG V.get p.pos.toNat p.data)).cnt = if (V.get p.pos.toNat).isSome then V.cnt else V.cnt + 1 := by
    simp only [BoxV.cnt]
    rw [cntN_upd]
    have : ¬ 16 ≤ p.pos.toNat := by omega
    simp [this]
  refine ⟨?_, e⟩
  rw [e]
  split
  · next hs =>
    apply Nat.pos_of_ne_zero
    intro h0
    have := cntN_zero h0 p.pos.toNat (by omega)
    rw [this] at hs
    cases hs
  · omega

theorem put_wf {V : BoxV} {p : PieceV} (h : WF V) (hs : p.sum < 4294967296) (hb : Byt p.data) : WF (putV V p).1 := by
  by_cases h0 : (putV V p).2 = 0
  · obtain ⟨h1, h2, h3, h4⟩ := put_ok h0
    have hm := may_true h1
    rw [h4]
    refine ⟨hm.2.1, by show 0 ≤ p.tot; omega, hs, fun _ => hm.1, fun i d hd => ?_⟩
    simp only [updG] at hd
    split at hd
    · next e =>
      subst e
      simp only [Option.some.injEq] at hd
      subst hd
      exact ⟨by show _ < p.tot; omega, hm.2.2.2.2, hb⟩
    · have hg := h.get i d hd
      rcases h2 with h2 | h2
      · exfalso
        have hi : i < 16 := by have := h.le; omega
        rw [cntN_zero h2 i hi] at hd
        cases hd
      · exact ⟨by show _ < p.tot; rw [← h2.1]; exact hg.1, hg.2⟩
  · rw [put_no h0]; exact h

def missV (V : BoxV) : List Nat := if V.cnt = 0 then [0] else (List.range V.tot.toNat).filter fun i => (V.get i).isNone
def joinN (V : BoxV) (n : Nat) : List Nat := (List.range n).flatMap fun i => (V.get i).getD []
def doneV (V : BoxV) : Option (List Nat) :=
  if V.cnt = 0 ∨ (V.cnt : Int) < V.tot then none
  else if sumL (joinN V V.tot.toNat) = V.sum then some (joinN V V.tot.toNat) else none

theorem join_succ (V : BoxV) (n : Nat) : joinN V (n + 1) = joinN V n ++ (V.get n).getD [] := by simp [joinN, List.range_succ]
theorem join_len {V : BoxV} (h : WF V) (n : Nat) : (joinN V n).length ≤ 512 * n := by
  induction n with
  | zero => simp [joinN]
  | succ n ih =>
    rw [join_succ, List.length_append]
    cases hg : V.get n with
    | none => simp [hg]; omega
    | some d => have := (h.get n d hg).2.1; simp [hg]; omega
theorem join_byt {V : BoxV} (h : WF V) (n : Nat) : Byt (joinN V n) := by
  induction n with
  | zero => intro x hx; simp [joinN] at hx
  | succ n ih =>
    rw [join_succ]
    intro x hx
    rcases List.mem_append.1 hx with hx | hx
    · exact ih x hx
    · cases hg : V.get n with
      | none => simp [hg] at hx
      | some d => simp [hg] at hx; exact (h.get n d hg).2.2 x hx

/-- Alike in all that can be seen. -/
theorem done_len {V : BoxV} {x : List Nat} (h : WF V) (hd : doneV V = some x) : x.length ≤ 8192 ∧ sumL x = V.sum ∧ 0 < V.cnt := by
  unfold doneV at hd
  split at hd
  · cases hd
  · next h0 =>
    split at hd
    · next hs =>
      simp only [Option.some.injEq] at hd
      subst hd
      have := join_len h V.tot.toNat
      have := h.le
      exact ⟨by omega, hs, by omega⟩
    · cases hd
end Go.Proofs.YtgpkenbefolegaaDoor.box
