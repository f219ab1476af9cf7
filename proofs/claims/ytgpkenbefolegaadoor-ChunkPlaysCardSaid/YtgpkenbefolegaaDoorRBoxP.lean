/-
  The document's box of pieces, in plain Lean: it takes, lacks and has what a box does.
-/
import Derived.Test.YtgpkenbefolegaaDoorBoxPlain
namespace Go.Proofs.YtgpkenbefolegaaDoor.box
open Go.Proofs.YtgpkenbefolegaaDoor.byt Go.Proofs.YtgpkenbefolegaaDoor.sum Go.Proofs.YtgpkenbefolegaaDoor.cut
set_option linter.unusedVariables false
set_option linter.unusedSimpArgs false

/-- The document's pieces are the box's. -/
structure Rel (L : List PieceV) (V : BoxV) : Prop where
  all : ∀ x ∈ L, x.tot = V.tot ∧ x.sum = V.sum ∧ ∃ i : Nat, x.pos = i ∧ i < 16 ∧ V.get i = some x.data
  has : ∀ i d, i < 16 → V.get i = some d → ∃ x ∈ L, x.pos = (i : Int)
  len : L.length = V.cnt
theorem Rel.le {L : List PieceV} {V : BoxV} (h : Rel L V) : L.length ≤ 16 := by rw [h.len]; exact cntN_le _ _
theorem rel_empty : Rel [] empty := ⟨by simp, (fun i d _ h => by cases h), (by rw [empty_cnt]; rfl)⟩
/-- Does a piece speak against another? -/
def conf (x p : PieceV) : Prop := x.tot ≠ p.tot ∨ x.sum ≠ p.sum ∨ x.pos = p.pos ∧ x.data ≠ p.data
theorem rel_pos {L : List PieceV} {V : BoxV} (h : Rel L V) {x : PieceV} (hx : x ∈ L) : 0 < V.cnt := by rw [← h.len]; exact List.length_pos_of_mem hx
theorem rel_data {L : List PieceV} {V : BoxV} (h : Rel L V) {x : PieceV} (hx : x ∈ L) {k : Nat} (hk : x.pos = k) : V.get k = some x.data := by
  obtain ⟨-, -, i, e, -, hg⟩ := h.all x hx
  have : i = k := by omega
  rw [← this]; exact hg
/-- A piece that some other speaks against is refused. -/
theorem put_conf {L : List PieceV} {V : BoxV} {p x : PieceV} (h : Rel L V) (hm : mayP p = true) (hx : x ∈ L) (hc : conf x p) : putV V p = (V, 120) := by
  have hp := rel_pos h hx
  obtain ⟨h1, h2, i, e, hi, hg⟩ := h.all x hx
  have hmt := may_true hm
  rw [putV, if_neg (by rw [hm]; simp)]
  by_cases h0 : 0 < V.cnt ∧ (V.tot ≠ p.tot ∨ V.sum ≠ p.sum)
  · rw [if_pos h0]
  · rw [if_neg h0]
    have h3 : V.tot = p.tot := Decidable.byContradiction fun hn => h0 ⟨hp, .inl hn⟩
    have h4 : V.sum = p.sum := Decidable.byContradiction fun hn => h0 ⟨hp, .inr hn⟩
    rcases hc with hc | hc | ⟨hc, hd⟩
    · exact absurd (h1.trans h3) hc
    · exact absurd (h2.trans h4) hc
    · have e2 : p.pos.toNat = i := by omega
      rw [e2, hg]
      simp [hd]
/-- Where none does: a piece whose number is there changes nothing; another comes behind all. -/
theorem put_free {L : List PieceV} {V : BoxV} {p : PieceV} (h : Rel L V) (hm : mayP p = true) (hf : ∀ x ∈ L, ¬ conf x p) : putV V p = (⟨p.tot, p.sum, updG V.get p.pos.toNat p.data⟩, 0) := by
  have hmt := may_true hm
  rw [putV, if_neg (by rw [hm]; simp)]
  have h0 : ¬ (0 < V.cnt ∧ (V.tot ≠ p.tot ∨ V.sum ≠ p.sum)) := by
    rintro ⟨hp, hd⟩
    obtain ⟨x, hx⟩ : ∃ x, x ∈ L := by
      cases hL : L with
      | nil => have := h.len; rw [hL] at this; simp at this; omega
      | cons x l => exact ⟨x, by simp⟩
    obtain ⟨h1, h2, -⟩ := h.all x hx
    have := hf x hx
    rcases hd with hd | hd
    · exact this (.inl (by rw [h1]; exact hd))
    · exact this (.inr (.inl (by rw [h2]; exact hd)))
  rw [if_neg h0]
  cases hg : V.get p.pos.toNat with
  | none => rfl
  | some d =>
    simp only
    obtain ⟨x, hx, e⟩ := h.has _ d (by omega) hg
    have h1 := rel_data h hx e
    rw [hg] at h1
    have hd : d = x.data := Option.some.inj h1
    have h2 : x.data = p.data := Decidable.byContradiction fun hn => hf x hx (.inr (.inr ⟨by omega, hn⟩))
    rw [if_pos (hd.trans h2)]
theorem rel_same {L : List PieceV} {V : BoxV} {p x : PieceV} (h : Rel L V) (hm : mayP p = true) (hf : ∀ x ∈ L, ¬ conf x p) (hx : x ∈ L) (he : x.pos = p.pos) : Rel L (putV V p).1 := by
  have hmt := may_true hm
  rw [put_free h hm hf]
  obtain ⟨h1, h2, i, e, hi, hg⟩ := h.all x hx
  have hne := hf x hx
  have e1 : x.tot = p.tot := Decidable.byContradiction fun hn => hne (.inl hn)
  have e2 : x.sum = p.sum := Decidable.byContradiction fun hn => hne (.inr (.inl hn))
  have e3 : x.data = p.data := Decidable.byContradiction fun hn => hne (.inr (.inr ⟨he, hn⟩))
  have hget : updG V.get p.pos.toNat p.data = V.get := by
    funext j
    simp only [updG]
    split
    · next hj => subst hj; rw [← e3, show p.pos.toNat = i by omega, hg]
    · rfl
  have hV : (⟨p.tot, p.sum, updG V.get p.pos.toNat p.data⟩ : BoxV) = V := by
    rw [hget, ← e1, ← e2, h1, h2]
  rw [hV]
  exact h
theorem rel_new {L : List PieceV} {V : BoxV} {p q : PieceV} (h : Rel L V) (hm : mayP p = true) (hf : ∀ x ∈ L, ¬ conf x p) (hn : ∀ x ∈ L, x.pos ≠ p.pos) (hq : q.pos = p.pos ∧ q.tot = p.tot ∧ q.sum = p.sum ∧ q.data = p.data) : Rel (L ++ [q]) (putV V p).1 := by
  have hmt := may_true hm
  have hpv := put_free h hm hf
  have hnone : V.get p.pos.toNat = none := by
    cases hg : V.get p.pos.toNat with
    | none => rfl
    | some d =>
      obtain ⟨x, hx, e⟩ := h.has _ d (by omega) hg
      exact absurd (by omega) (hn x hx)
  have hcnt := (put_cnt (V := V) (p := p) (by rw [hpv])).2
  rw [hnone] at hcnt
  rw [hpv] at hcnt ⊢
  obtain ⟨q1, q2, q3, q4⟩ := hq
  refine ⟨fun x hx => ?_, fun i d hi hg => ?_, ?_⟩
  · rcases List.mem_append.1 hx with hx | hx
    · obtain ⟨h1, h2, i, e, hi, hg⟩ := h.all x hx
      have hne := hf x hx
      have e1 : x.tot = p.tot := Decidable.byContradiction fun hn => hne (.inl hn)
      have e2 : x.sum = p.sum := Decidable.byContradiction fun hn => hne (.inr (.inl hn))
      refine ⟨e1, e2, i, e, hi, ?_⟩
      have : i ≠ p.pos.toNat := fun hh => hn x hx (by omega)
      simp only [updG, if_neg this]
      exact hg
    · rw [List.mem_singleton.1 hx]
      refine ⟨q2, q3, p.pos.toNat, by omega, by omega, ?_⟩
      simp only [updG, if_true, q4]
  · by_cases e : i = p.pos.toNat
    · exact ⟨q, by simp, by omega⟩
    · simp only [updG, if_neg e] at hg
      obtain ⟨x, hx, ex⟩ := h.has i d hi hg
      exact ⟨x, by simp [hx], ex⟩
  · rw [List.length_append, h.len, List.length_singleton]
    exact hcnt.symm

/-- Where a piece stands; -1. -/
def hasI (L : List PieceV) (a : Int) : Int := match L.findIdx? (fun x => x.pos == a) with
  | some k => k
  | none => -1
theorem hasI_at {L : List PieceV} {a : Int} {k : Nat} (hk : k < L.length) (h : L[k].pos = a) (hb : ∀ j (hj : j < L.length), j < k → L[j].pos ≠ a) : hasI L a = k := by
  have e : L.findIdx? (fun x => x.pos == a) = some k := by
    rw [List.findIdx?_eq_some_iff_getElem]
    exact ⟨hk, by simpa using h, fun j hj => by simpa using hb j (by omega) hj⟩
  rw [hasI, e]
theorem hasI_none {L : List PieceV} {a : Int} (h : ∀ x ∈ L, x.pos ≠ a) : hasI L a = -1 := by
  have e : L.findIdx? (fun x => x.pos == a) = none := by
    rw [List.findIdx?_eq_none_iff]
    intro x hx
    simpa using h x hx
  rw [hasI, e]
theorem hasI_get {L : List PieceV} {V : BoxV} (h : Rel L V) {i : Nat} (hi : i < 16) : (V.get i = none ∧ hasI L i = -1) ∨ ∃ k, ∃ hk : k < L.length, hasI L i = (k : Int) ∧ V.get i = some (L[k]).data := by
  cases hf : L.findIdx? (fun x => x.pos == (i : Int)) with
  | none =>
    left
    rw [List.findIdx?_eq_none_iff] at hf
    have hn : ∀ x ∈ L, x.pos ≠ (i : Int) := fun x hx => by simpa using hf x hx
    refine ⟨?_, hasI_none hn⟩
    cases hg : V.get i with
    | none => rfl
    | some d =>
      obtain ⟨x, hx, e⟩ := h.has i d hi hg
      exact absurd e (hn x hx)
  | some k =>
    right
    have h2 := hf
    rw [List.findIdx?_eq_some_iff_getElem] at hf
    obtain ⟨hk, h1, -⟩ := hf
    refine ⟨k, hk, by rw [hasI, h2], rel_data h (List.getElem_mem hk) (by simpa using h1)⟩
/-- All pieces are there just if none lacks. -/
theorem full_iff {V : BoxV} (h : WF V) (hc : 0 < V.cnt) : ((List.range V.tot.toNat).filter fun i => (V.get i).isNone) = [] ↔ ¬ ((V.cnt : Int) < V.tot) := by
  have hle := h.le
  have hpos := h.pos
  have hmore : cntN 16 V.get = cntN V.tot.toNat V.get := cntN_more _ _ _ (by omega) fun i h1 h2 => by
    cases hg : V.get i with
    | none => rfl
    | some d => have := (h.get i d hg).1; omega
  have hcl := cntN_le V.get V.tot.toNat
  constructor
  · intro hf
    have hall : ∀ i, i < V.tot.toNat → V.get i ≠ none := by
      intro i hi e
      rw [List.filter_eq_nil_iff] at hf
      exact hf i (List.mem_range.2 hi) (by rw [e]; rfl)
    have := cntN_all V.get V.tot.toNat hall
    simp only [BoxV.cnt]
    omega
  · intro hn
    have hfull := cntN_full V.get V.tot.toNat (by simp only [BoxV.cnt] at hn; omega)
    rw [List.filter_eq_nil_iff]
    intro i hi e
    have := hfull i (List.mem_range.1 hi)
    cases hg : V.get i with
    | none => exact this hg
    | some d => rw [hg] at e; cases e
theorem done_miss {V : BoxV} (h : WF V) : doneV V = if missV V = [] then (if sumL (joinN V V.tot.toNat) = V.sum then some (joinN V V.tot.toNat) else none) else none := by
  unfold doneV missV
  by_cases h0 : V.cnt = 0
  · simp [h0]
  · have hf := full_iff h (by omega)
    by_cases hl : (V.cnt : Int) < V.tot
    · rw [if_pos (.inr hl), if_neg h0, if_neg (fun e => hf.1 e hl)]
    · rw [if_neg (by rintro (e | e) <;> omega), if_neg h0, if_pos (hf.2 hl)]
end Go.Proofs.YtgpkenbefolegaaDoor.box
