/-
  The document's clock as data beside the clock: Rel A P: P are A's timers in the order of their turns (no program in sight).
-/
import Derived.Test.YtejjnhgiijhglaaClkP
namespace Go.Proofs.Ytejjnhgiijhglaa.rclkp
open Go.Proofs.Ytejjnhgiijhglaa.heapp Go.Proofs.Ytejjnhgiijhglaa.clkp
set_option linter.unusedVariables false
set_option linter.unusedSimpArgs false
set_option maxHeartbeats 1000000

theorem perm_eq {l s : List T3} (hp : l.Perm s) (hs : s.Pairwise lt3) (hl : l.Pairwise (fun a b => ¬ lt3 b a)) : l = s := by
  induction s generalizing l with
  | nil => exact hp.eq_nil
  | cons x s ih =>
    cases l with
    | nil => exact absurd hp.symm.eq_nil (by simp)
    | cons y l =>
      have hx := List.pairwise_cons.1 hs
      have hy := List.pairwise_cons.1 hl
      have e : y = x := by
        rcases List.mem_cons.1 (hp.mem_iff.1 List.mem_cons_self) with e | h1
        · exact e
        · rcases List.mem_cons.1 (hp.symm.mem_iff.1 (List.mem_cons_self (a := x) (l := s))) with e | h2
          · exact e.symm
          · exact absurd (hx.1 y h1) (hy.1 x h2)
      subst e
      rw [ih hp.cons_inv hx.2 hy.2]

/-- P are A's timers in the order of their turns. -/
structure Rel (A : CkS) (P : List T3) : Prop where
  perm : P.Perm A.s
  ord : P.Pairwise (fun a b => a.turn < b.turn)
theorem rel_start : Rel clkp.start [] := ⟨List.Perm.refl _, List.Pairwise.nil⟩
theorem rel_stop {A : CkS} {P : List T3} (h : Rel A P) (n : ByteArray) : Rel (stopS A n) (rm P n) := ⟨h.perm.filter _, h.ord.filter _⟩
theorem rel_has {A : CkS} {P : List T3} (h : Rel A P) (n : ByteArray) : has P n = has A.s n := by
  cases e : has A.s n with
  | true =>
    obtain ⟨t, ht, e1⟩ := has_iff.1 e
    exact has_iff.2 ⟨t, h.perm.mem_iff.2 ht, e1⟩
  | false =>
    cases e2 : has P n with
    | false => rfl
    | true =>
      obtain ⟨t, ht, e1⟩ := has_iff.1 e2
      have := has_iff.2 ⟨t, h.perm.mem_iff.1 ht, e1⟩
      rw [e] at this; cases this
theorem rel_len {A : CkS} {P : List T3} (h : Rel A P) : P.length = A.s.length := h.perm.length_eq
theorem rel_nod {A : CkS} {P : List T3} (h : Rel A P) (ho : Ok A) : P.Pairwise (fun a b => a.nm ≠ b.nm) := (List.Perm.pairwise_iff (fun {a b} hab => fun e => hab e.symm) h.perm).2 ho.nod
theorem rm_none {P : List T3} {n : ByteArray} (h : has P n = false) : rm P n = P := by
  refine List.filter_eq_self.2 (fun t ht => ?_)
  refine decide_eq_true (fun e => ?_)
  have := has_iff.2 ⟨t, ht, e⟩
  rw [h] at this; cases this
theorem rel_set {A : CkS} {P : List T3} (h : Rel A P) (ho : Ok A) {n : ByteArray} {i : Int} (hE : setE A n i = 0) : Rel (setS A n i) (rm P n ++ [⟨n, A.now + i, A.turns + 1⟩]) := by
  have hS : setS A n i = ⟨A.now, A.turns + 1, ins (rm A.s n) ⟨n, A.now + i, A.turns + 1⟩⟩ := by rw [setS, if_pos hE]
  rw [hS]
  refine ⟨((h.perm.filter _).append_right _).trans (perm_ins _ _).symm, List.pairwise_append.2 ⟨h.ord.filter _, List.pairwise_singleton _ _, fun x hx y hy => ?_⟩⟩
  rw [List.mem_singleton.1 hy]
  have := (ho.trn x (h.perm.mem_iff.1 (mem_rm.1 hx).1)).2
  show x.turn < A.turns + 1
  omega
/-- Those due at one time stand by their turns in both. -/
theorem rel_at {A : CkS} {P : List T3} (h : Rel A P) (ho : Ok A) (d : Int) : P.filter (fun t => decide (t.due = d)) = A.s.filter (fun t => decide (t.due = d)) := by
  refine perm_eq (h.perm.filter _) (ho.srt.filter _) ?_
  have h1 : (P.filter (fun t => decide (t.due = d))).Pairwise (fun a b => a.turn < b.turn) := h.ord.filter _
  refine List.Pairwise.imp_of_mem ?_ h1
  intro a b ha hb hab
  have e1 : a.due = d := of_decide_eq_true (List.mem_filter.1 ha).2
  have e2 : b.due = d := of_decide_eq_true (List.mem_filter.1 hb).2
  unfold lt3
  omega
theorem filt_congr {l : List T3} {p q : T3 → Bool} (h : ∀ t ∈ l, p t = q t) : l.filter p = l.filter q := List.filter_congr h
theorem rel_tick {A : CkS} {P : List T3} (h : Rel A P) (hf : Fut A) : Rel (tickS A) (P.filter (fun t => decide (t.due ≠ A.now + 1))) := by
  have e : P.filter (fun t => decide (t.due ≠ A.now + 1)) = P.filter (fun t => decide (A.now + 1 < t.due)) := by
    refine List.filter_congr (fun t ht => ?_)
    have := hf t (h.perm.mem_iff.1 ht)
    rw [decide_eq_decide]
    omega
  rw [e]
  exact ⟨h.perm.filter _, h.ord.filter _⟩
theorem rel_told {A : CkS} {P : List T3} (h : Rel A P) (ho : Ok A) (hf : Fut A) : (P.filter (fun t => decide (t.due = A.now + 1))).map T3.nm = told A := by
  rw [rel_at h ho]
  unfold told
  congr 1
  refine List.filter_congr (fun t ht => ?_)
  have := hf t ht
  rw [decide_eq_decide]
  omega
/-- The first of those that are due behind a time. -/
theorem nxt_split {s : List T3} (hs : s.Pairwise lt3) (a n : Int) (han : a < n) (hn : ∀ t ∈ s, t.due ≤ a ∨ n ≤ t.due) : s.filter (fun t => decide (t.due ≤ n)) = s.filter (fun t => decide (t.due ≤ a)) ++ s.filter (fun t => decide (t.due = n)) := by
  induction s with
  | nil => rfl
  | cons x s ih =>
    have hx := List.pairwise_cons.1 hs
    have ih := ih hx.2 (fun t ht => hn t (List.mem_cons_of_mem _ ht))
    have h0 := hn x List.mem_cons_self
    by_cases h1 : x.due ≤ a
    · rw [List.filter_cons_of_pos (by simpa using Int.le_trans h1 (Int.le_of_lt han)), List.filter_cons_of_pos (by simpa using h1), List.filter_cons_of_neg (by simp; omega), ih]
      rfl
    · have hnone : s.filter (fun t => decide (t.due ≤ a)) = [] := by
        refine List.filter_eq_nil_iff.2 (fun t ht => ?_)
        have h3 := hx.1 t ht
        unfold lt3 at h3
        have : ¬ t.due ≤ a := by omega
        simpa using this
      rw [hnone, List.nil_append] at ih
      have e1 : (x :: s).filter (fun t => decide (t.due ≤ a)) = [] := by rw [List.filter_cons_of_neg (by simpa using h1)]; exact hnone
      rw [e1, List.nil_append]
      by_cases h2 : x.due = n
      · rw [List.filter_cons_of_pos (by simp; omega), List.filter_cons_of_pos (by simpa using h2), ih]
      · rw [List.filter_cons_of_neg (by simp; omega), List.filter_cons_of_neg (by simpa using h2), ih]
/-- The names of those due up to a time. -/
def upTo (A : CkS) (a : Int) : List ByteArray := (A.s.filter (fun t => decide (t.due ≤ a))).map T3.nm
theorem upTo_next {A : CkS} {P : List T3} (h : Rel A P) (ho : Ok A) {a n : Int} (han : a < n) (hn : ∀ t ∈ P, t.due ≤ a ∨ n ≤ t.due) : upTo A a ++ (P.filter (fun t => decide (t.due = n))).map T3.nm = upTo A n := by
  unfold upTo
  rw [rel_at h ho, ← List.map_append, ← nxt_split ho.srt a n han (fun t ht => hn t (h.perm.mem_iff.2 ht))]
theorem upTo_zero {A : CkS} (ho : Ok A) (hf : Fut A) : upTo A 0 = [] := by
  unfold upTo
  rw [List.filter_eq_nil_iff.2]
  · rfl
  · intro t ht
    have h1 := hf t ht
    have h2 := ho.num.1.1
    have : ¬ t.due ≤ 0 := by omega
    simpa using this
theorem upTo_len {A : CkS} {a : Int} : (upTo A a).length ≤ A.s.length := by unfold upTo; rw [List.length_map]; exact List.length_filter_le _ _
theorem upTo_full {A : CkS} {a : Int} (h : ¬ (upTo A a).length < A.s.length) : upTo A a = A.s.map T3.nm := by
  unfold upTo at h ⊢
  rw [List.length_map] at h
  have h1 : (A.s.filter (fun t => decide (t.due ≤ a))).Sublist A.s := List.filter_sublist
  rw [h1.eq_of_length_le (by omega)]
theorem upTo_more {A : CkS} {P : List T3} (h : Rel A P) {a : Int} (hl : (upTo A a).length < A.s.length) : ∃ t ∈ P, a < t.due := by
  apply Decidable.byContradiction
  intro hn
  have e : A.s.filter (fun t => decide (t.due ≤ a)) = A.s := by
    refine List.filter_eq_self.2 (fun t ht => decide_eq_true ?_)
    apply Decidable.byContradiction
    intro h2
    exact hn ⟨t, h.perm.mem_iff.2 ht, by omega⟩
  unfold upTo at hl
  rw [List.length_map, e] at hl
  omega
end Go.Proofs.Ytejjnhgiijhglaa.rclkp
