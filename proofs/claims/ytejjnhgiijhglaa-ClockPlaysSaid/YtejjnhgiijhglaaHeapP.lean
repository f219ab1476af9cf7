/-
  A heap of timers, in plain Lean: what up and down leave.
-/
import Derived.Test.YtejjnhgiijhglaaKit
namespace Go.Proofs.Ytejjnhgiijhglaa.heapp
set_option linter.unusedVariables false
set_option linter.unusedSimpArgs false
set_option maxHeartbeats 1000000

/-- A timer: its name, when it is due, its turn, its block. -/
structure Tm where
  nm : ByteArray
  due : Int
  turn : Int
  tb : Nat
def tm0 : Tm := ⟨⟨#[]⟩, 0, 0, 0⟩
def lt (a b : Tm) : Prop := a.due < b.due ∨ a.due = b.due ∧ a.turn < b.turn
instance (a b : Tm) : Decidable (lt a b) := by unfold lt; infer_instance
def ltB (a b : Tm) : Bool := decide (lt a b)
def gt (q : List Tm) (i : Nat) : Tm := q.getD i tm0
def par (k : Nat) : Nat := (k - 1) / 2
def swp (q : List Tm) (i j : Nat) : List Tm := (q.set i (gt q j)).set j (gt q i)
theorem gt_eq {q : List Tm} {i : Nat} (h : i < q.length) : gt q i = q[i] := by simp [gt, h]
theorem swp_length (q : List Tm) (i j : Nat) : (swp q i j).length = q.length := by simp [swp]
theorem gt_swp {q : List Tm} {i j : Nat} (hi : i < q.length) (hj : j < q.length) (k : Nat) : gt (swp q i j) k = if k = j then gt q i else if k = i then gt q j else gt q k := by
  unfold swp gt
  simp only [List.getD_eq_getElem?_getD, List.getElem?_set, List.length_set]
  by_cases h1 : k = j
  · subst h1; simp [hj]
  · have h1' : ¬ j = k := fun e => h1 e.symm
    by_cases h2 : k = i
    · subst h2; simp [h1, h1', hi]
    · have h2' : ¬ i = k := fun e => h2 e.symm
      simp [h1, h1', h2, h2']
theorem swp_perm {q : List Tm} {i j : Nat} (hi : i < q.length) (hj : j < q.length) : (swp q i j).Perm q := by
  unfold swp
  rw [gt_eq hi, gt_eq hj]
  exact List.set_set_perm hi hj
/-- The first n stand as a heap. -/
def Hp (q : List Tm) (n : Nat) : Prop := ∀ k, 0 < k → k < n → ¬ lt (gt q k) (gt q (par k))
/-- .. but for j and what stands above it. -/
def UpI (q : List Tm) (n j : Nat) : Prop := (∀ k, 0 < k → k < n → k ≠ j → ¬ lt (gt q k) (gt q (par k))) ∧ (∀ k, 0 < k → k < n → par k = j → 0 < j → ¬ lt (gt q k) (gt q (par j)))
/-- .. but for i and what stands below it. -/
def DnI (q : List Tm) (n i0 i : Nat) : Prop := (∀ k, 0 < k → k < n → par k ≠ i → k ≠ i → ¬ lt (gt q k) (gt q (par k))) ∧ (∀ k, 0 < k → k < n → par k = i → 0 < i → ¬ lt (gt q k) (gt q (par i))) ∧ (i ≠ i0 → 0 < i → ¬ lt (gt q i) (gt q (par i)))

theorem up_done {q : List Tm} {n j : Nat} (h : UpI q n j) (hs : j = 0 ∨ ¬ lt (gt q j) (gt q (par j))) : Hp q n := by
  intro k h0 hk
  by_cases e : k = j
  · subst e
    rcases hs with hs | hs
    · omega
    · exact hs
  · exact h.1 k h0 hk e
theorem up_step {q : List Tm} {n j : Nat} (h : UpI q n j) (hj : j < n) (hn : n ≤ q.length) (h0 : 0 < j) (hl : lt (gt q j) (gt q (par j))) : UpI (swp q (par j) j) n (par j) := by
  have hp : par j < j := by unfold par; omega
  have hg := gt_swp (q := q) (i := par j) (j := j) (by omega) (by omega)
  refine ⟨fun k hk0 hk hne => ?_, fun k hk0 hk hpk hp0 => ?_⟩
  · have hkp : par k < k := by unfold par; omega
    rw [hg, hg]
    by_cases e1 : k = j
    · subst e1
      simp only [if_true, if_neg (show ¬ par k = k by omega)]
      unfold lt at hl ⊢; omega
    · rw [if_neg e1, if_neg hne]
      by_cases e2 : par k = j
      · rw [if_pos e2]
        exact h.2 k hk0 hk e2 h0
      · rw [if_neg e2]
        by_cases e3 : par k = par j
        · rw [if_pos e3]
          have h1 := h.1 k hk0 hk e1
          rw [e3] at h1
          unfold lt at hl h1 ⊢; omega
        · rw [if_neg e3]
          exact h.1 k hk0 hk e1
  · have hpp : par (par j) < par j := by unfold par at *; omega
    rw [hg, hg, if_neg (show ¬ par (par j) = j by omega), if_neg (show ¬ par (par j) = par j by omega)]
    have h2 := h.1 (par j) hp0 (by omega) (by omega)
    by_cases e1 : k = j
    · rw [if_pos e1]
      exact h2
    · have hkn : k ≠ par j := by
        intro e
        rw [← e] at hpk
        unfold par at hpk; omega
      rw [if_neg e1, if_neg hkn]
      have h1 := h.1 k hk0 hk e1
      rw [hpk] at h1
      unfold lt at h1 h2 ⊢; omega

theorem dn_step {q : List Tm} {n i0 i j : Nat} (h : DnI q n i0 i) (hn : n ≤ q.length) (hj : j < n) (hc : par j = i) (h0 : 0 < j) (hlo : i0 ≤ i) (hmin : ∀ k, 0 < k → k < n → par k = i → ¬ lt (gt q k) (gt q j)) (hl : lt (gt q j) (gt q i)) : DnI (swp q i j) n i0 j := by
  have hij : i < j := by unfold par at hc; omega
  have hg := gt_swp (q := q) (i := i) (j := j) (by omega) (by omega)
  refine ⟨fun k hk0 hk hpk hne => ?_, fun k hk0 hk hpk hp0 => ?_, fun _ _ => ?_⟩
  · rw [hg, hg, if_neg hne, if_neg hpk]
    by_cases e1 : k = i
    · rw [if_pos e1]
      have hpi : par k ≠ i := by rw [e1]; unfold par; omega
      rw [if_neg hpi]
      have h2 := h.2.1 j h0 hj hc (by omega)
      rw [e1]
      exact h2
    · rw [if_neg e1]
      by_cases e2 : par k = i
      · rw [if_pos e2]
        exact hmin k hk0 hk e2
      · rw [if_neg e2]
        exact h.1 k hk0 hk e2 e1
  · have hkj : k ≠ j := by intro e; rw [e] at hpk; unfold par at hpk; omega
    have hki : k ≠ i := by intro e; rw [e] at hpk; unfold par at hpk; omega
    rw [hg, hg, if_neg hkj, if_neg hki, hc, if_neg (show ¬ i = j by omega), if_pos rfl]
    have h1 := h.1 k hk0 hk (by omega) hki
    rw [hpk] at h1
    exact h1
  · rw [hg, hg, if_pos rfl, hc, if_neg (show ¬ i = j by omega), if_pos rfl]
    unfold lt at hl ⊢; omega
/-- Where down ends. -/
theorem dn_moved {q : List Tm} {n i0 i : Nat} (h : DnI q n i0 i) (hs : ∀ k, 0 < k → k < n → par k = i → ¬ lt (gt q k) (gt q i)) (hi : i0 < i) : Hp q n := by
  intro k h0 hk
  by_cases e1 : par k = i
  · rw [e1]; exact hs k h0 hk e1
  · by_cases e2 : k = i
    · subst e2; exact h.2.2 (by omega) h0
    · exact h.1 k h0 hk e1 e2
theorem dn_stays {q : List Tm} {n i : Nat} (h : DnI q n i i) (hs : ∀ k, 0 < k → k < n → par k = i → ¬ lt (gt q k) (gt q i)) : UpI q n i := by
  refine ⟨fun k h0 hk hne => ?_, h.2.1⟩
  by_cases e1 : par k = i
  · rw [e1]; exact hs k h0 hk e1
  · exact h.1 k h0 hk e1 hne
/-- A heap whose place i is taken by the last one. -/
theorem dn_start {q : List Tm} {n i : Nat} (h : Hp q (n + 1)) (hn : n + 1 = q.length) (hi : i < n) : DnI (swp q i n) n i i := by
  have hg := gt_swp (q := q) (i := i) (j := n) (by omega) (by omega)
  have hpl : ∀ k, 0 < k → par k < k := fun k hk => by unfold par; omega
  refine ⟨fun k hk0 hk hpk hne => ?_, fun k hk0 hk hpk hp0 => ?_, fun e => absurd rfl e⟩
  · rw [hg, hg, if_neg (show ¬ k = n by omega), if_neg hne, if_neg (show ¬ par k = n by have := hpl k hk0; omega), if_neg hpk]
    exact h k hk0 (by omega)
  · have hki : k ≠ i := by intro e; have := hpl k hk0; omega
    have := hpl i hp0
    rw [hg, hg, if_neg (show ¬ k = n by omega), if_neg hki, if_neg (show ¬ par i = n by omega), if_neg (show ¬ par i = i by omega)]
    have h1 := h k hk0 (by omega)
    rw [hpk] at h1
    have h2 := h i hp0 (by omega)
    unfold lt at h1 h2 ⊢; omega
theorem up_start {q : List Tm} {t : Tm} (h : Hp q q.length) : UpI (q ++ [t]) (q.length + 1) q.length := by
  have hg : ∀ k, k < q.length → gt (q ++ [t]) k = gt q k := fun k hk => by simp [gt, List.getElem?_append_left hk]
  refine ⟨fun k hk0 hk hne => ?_, fun k hk0 hk hpk => ?_⟩
  · rw [hg k (by omega), hg (par k) (by unfold par; omega)]
    exact h k hk0 (by omega)
  · unfold par at hpk; omega
theorem hp_take {q : List Tm} {n : Nat} (h : Hp q n) (hn : n ≤ q.length) : Hp (q.take n) (q.take n).length := by
  rw [List.length_take, Nat.min_eq_left hn]
  have hg : ∀ k, k < n → gt (q.take n) k = gt q k := fun k hk => by simp [gt, List.getElem?_take, hk]
  intro k h0 hk
  rw [hg k hk, hg (par k) (by unfold par; omega)]
  exact h k h0 hk
/-- The first is the least. -/
theorem hp_min {q : List Tm} {n : Nat} (h : Hp q n) : ∀ k, k < n → ¬ lt (gt q k) (gt q 0) := by
  intro k
  induction k using Nat.strongRecOn with
  | ind k ih =>
    intro hk
    by_cases h0 : k = 0
    · subst h0; unfold lt; omega
    · have h1 := h k (by omega) hk
      have h2 := ih (par k) (by unfold par; omega) (by unfold par; omega)
      unfold lt at *; omega
theorem erase_perm : ∀ (q : List Tm) (i : Nat) (h : i < q.length), q.Perm (q[i] :: q.eraseIdx i)
  | x :: q, 0, _ => by simp
  | x :: q, i + 1, h => by
    simp only [List.getElem_cons_succ, List.eraseIdx_cons_succ]
    exact (List.Perm.cons x (erase_perm q i (by simpa using h))).trans (List.Perm.swap _ _ _)
/-- What is left when the one of place i is taken out. -/
theorem perm_left {q q' : List Tm} {i n : Nat} (hp : q'.Perm q) (hn : n + 1 = q.length) (hi : i < q.length) (hl : gt q' n = gt q i) : (q'.take n).Perm (q.eraseIdx i) := by
  have hlen : q'.length = n + 1 := by rw [hp.length_eq, hn]
  have h1 : q' = q'.take n ++ [gt q i] := by
    rw [← hl, gt_eq (by omega)]
    rw [← List.take_succ_eq_append_getElem (by omega)]
    rw [List.take_of_length_le (by omega)]
  have h2 : q'.Perm (gt q i :: q'.take n) := by
    conv => lhs; rw [h1]
    exact List.perm_append_comm
  have h3 : q.Perm (gt q i :: q.eraseIdx i) := by
    rw [gt_eq hi]
    exact erase_perm q i hi
  exact (h2.symm.trans (hp.trans h3)).cons_inv
end Go.Proofs.Ytejjnhgiijhglaa.heapp
