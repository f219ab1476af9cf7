/-
  A box that holds some of the pieces of some bytes, in plain Lean.
-/
import Derived.Test.YtgpkenbefolegaaDoorBoxPlain
namespace Go.Proofs.YtgpkenbefolegaaDoor.box
open Go.Proofs.YtgpkenbefolegaaDoor.byt Go.Proofs.YtgpkenbefolegaaDoor.sum Go.Proofs.YtgpkenbefolegaaDoor.cut
set_option linter.unusedVariables false
set_option linter.unusedSimpArgs false

structure SomeOf (l : List Nat) (V : BoxV) : Prop where
  all : 0 < V.cnt → V.tot = nOf l ∧ V.sum = sumL l
  get : ∀ i d, V.get i = some d → i < nOf l ∧ d = cut.part l i

theorem part_len (l : List Nat) (i : Nat) : (cut.part l i).length = min 512 (l.length - 512 * i) := by simp [cut.part]
theorem nOf_le16 {l : List Nat} (h : l.length ≤ 8192) : nOf l ≤ 16 := by simp only [nOf]; omega
theorem nOf_pos (l : List Nat) : 1 ≤ nOf l := by simp only [nOf]; omega

theorem may_part {l : List Nat} {i : Nat} {p : PieceV} (hl : l.length ≤ 8192) (hp : IsPart l i p) (hi : i < nOf l) : mayP p = true := by
  obtain ⟨h1, h2, h3, h4⟩ := hp
  have hn := nOf_le16 hl
  have hn1 := nOf_pos l
  have hpl : p.data.length = min 512 (l.length - 512 * i) := by rw [h4, part_len]
  unfold mayP
  rw [h1, h2, hpl]
  rw [if_neg (by omega)]
  have hnv : nOf l = max ((l.length + 511) / 512) 1 := rfl
  split
  · simp only [beq_iff_eq]
    omega
  · simp only [Bool.and_eq_true, decide_eq_true_eq, Bool.or_eq_true, beq_iff_eq]
    omega

theorem some_empty (l : List Nat) : SomeOf l empty := ⟨by rw [empty_cnt]; omega, fun i d h => by cases h⟩

theorem put_part {l : List Nat} {V : BoxV} {i : Nat} {p : PieceV} (hl : l.length ≤ 8192) (hV : SomeOf l V) (hp : IsPart l i p) (hi : i < nOf l) :
    (putV V p).2 = 0 ∧ SomeOf l (putV V p).1 ∧ (∀ j, (putV V p).1.get j = if j = i then some (cut.part l i) else V.get j) ∧ 0 < (putV V p).1.cnt := by
  have hm := may_part hl hp hi
  obtain ⟨h1, h2, h3, h4⟩ := hp
  have hpi : p.pos.toNat = i := by rw [h1]; omega
  have hg : V.get p.pos.toNat = none ∨ V.get p.pos.toNat = some p.data := by
    rw [hpi]
    cases hg : V.get i with
    | none => exact .inl rfl
    | some d => right; rw [(hV.get i d hg).2, h4]
  have hc : ¬ (0 < V.cnt ∧ (V.tot ≠ p.tot ∨ V.sum ≠ p.sum)) := by
    rintro ⟨a, b⟩
    obtain ⟨c, d⟩ := hV.all a
    rw [h2, h3] at b
    rcases b with b | b
    · exact b c
    · exact b d
  have e : putV V p = (⟨p.tot, p.sum, updG V.get p.pos.toNat p.data⟩, 0) := by
    rw [putV, if_neg (by rw [hm]; simp), if_neg hc]
    rcases hg with hg | hg <;> rw [hg] <;> simp
  have hcnt := (put_cnt (V := V) (p := p) (by rw [e])).1
  have hget : ∀ j, (putV V p).1.get j = if j = i then some (cut.part l i) else V.get j := by
    intro j
    rw [e, hpi, h4]
    rfl
  refine ⟨by rw [e], ⟨fun _ => by rw [e]; exact ⟨h2, h3⟩, fun j d hd => ?_⟩, hget, hcnt⟩
  rw [hget] at hd
  split at hd
  · next ej => subst ej; simp only [Option.some.injEq] at hd; exact ⟨hi, hd.symm⟩
  · exact hV.get j d hd

theorem join_take {l : List Nat} {V : BoxV} (hV : SomeOf l V) : ∀ n, n ≤ nOf l → (∀ i, i < n → V.get i ≠ none) → joinN V n = l.take (512 * n)
  | 0, _, _ => by simp [joinN]
  | n + 1, hn, hg => by
    rw [join_succ, join_take hV n (by omega) (fun i hi => hg i (by omega))]
    cases hgn : V.get n with
    | none => exact absurd hgn (hg n (by omega))
    | some d =>
      rw [(hV.get n d hgn).2]
      simp only [Option.getD, cut.part]
      rw [show 512 * (n + 1) = 512 * n + 512 by omega, List.take_add]

theorem miss_nil {V : BoxV} : missV V = [] ↔ V.cnt ≠ 0 ∧ ∀ i, i < V.tot.toNat → V.get i ≠ none := by
  unfold missV
  split
  · next h => simp [h]
  · next h =>
    simp only [ne_eq, h, not_false_eq_true, true_and, List.filter_eq_nil_iff, List.mem_range]
    constructor
    · intro h2 i hi hn
      exact h2 i hi (by rw [hn]; rfl)
    · intro h2 i hi hn
      cases hg : V.get i with
      | none => exact h2 i hi hg
      | some d => rw [hg] at hn; cases hn

theorem done_part {l : List Nat} {V : BoxV} (hl : l.length ≤ 8192) (hV : SomeOf l V) (hw : WF V) : doneV V = if missV V = [] then some l else none := by
  by_cases h0 : V.cnt = 0
  · have : ¬ missV V = [] := by rw [miss_nil]; simp [h0]
    rw [if_neg this]
    simp [doneV, h0]
  · obtain ⟨h1, h2⟩ := hV.all (by omega)
    have ht : V.tot.toNat = nOf l := by rw [h1]; omega
    have hn := nOf_le16 hl
    have hmore : V.cnt = cntN (nOf l) V.get := by
      refine cntN_more V.get (nOf l) 16 hn fun i h3 h4 => ?_
      cases hg : V.get i with
      | none => rfl
      | some d => have := (hV.get i d hg).1; omega
    by_cases hm : missV V = []
    · rw [if_pos hm]
      have hall := (miss_nil.1 hm).2
      rw [ht] at hall
      have hc : V.cnt = nOf l := by rw [hmore]; exact cntN_all _ _ hall
      have hj : joinN V (nOf l) = l := by
        rw [join_take hV (nOf l) (Nat.le_refl _) hall]
        apply List.take_of_length_le
        simp only [nOf]
        omega
      unfold doneV
      rw [if_neg (by omega), ht, hj, if_pos h2.symm]
    · rw [if_neg hm]
      have hc : ¬ V.cnt = nOf l := by
        intro hc
        apply hm
        rw [miss_nil, ht]
        exact ⟨h0, cntN_full _ _ (by rw [← hmore]; exact hc)⟩
      have := cntN_le V.get (nOf l)
      unfold doneV
      rw [if_pos (by right; omega)]

theorem filter_le {α : Type} {p q : α → Bool} (h : ∀ x, p x = true → q x = true) : ∀ l : List α, (l.filter p).length ≤ (l.filter q).length
  | [] => Nat.le_refl _
  | x :: l => by
    have ih := filter_le h l
    simp only [List.filter_cons]
    cases hp : p x with
    | true => rw [h x hp]; simp; exact ih
    | false => cases hq : q x <;> simp <;> omega

theorem miss_put {l : List Nat} {V : BoxV} {i : Nat} {p : PieceV} (hl : l.length ≤ 8192) (hV : SomeOf l V) (hp : IsPart l i p) (hi : i < nOf l) (h0 : 0 < V.cnt) : (missV (putV V p).1).length ≤ (missV V).length := by
  obtain ⟨h1, h2, h3, h4⟩ := put_part hl hV hp hi
  unfold missV
  rw [if_neg (by omega), if_neg (by omega), (h2.all h4).1, (hV.all h0).1]
  refine filter_le (fun j hj => ?_) _
  rw [h3] at hj
  split at hj
  · cases hj
  · exact hj

theorem miss_all {l : List Nat} {V : BoxV} (hV : SomeOf l V) (h : ∀ i, i < nOf l → V.get i ≠ none) (hl : l.length ≤ 8192) : missV V = [] := by
  have h0 : V.cnt ≠ 0 := by
    intro h0
    exact h 0 (by have := nOf_pos l; omega) (cntN_zero h0 0 (by omega))
  rw [miss_nil]
  refine ⟨h0, ?_⟩
  rw [(hV.all (by omega)).1]
  exact fun i hi => h i (by omega)
end Go.Proofs.YtgpkenbefolegaaDoor.box
