/-
  What a call does to an acceptor, in plain words; the statements' less; rows while an acceptor turns.
-/
import Derived.Test.YtafjmedjaepimaaAccR
namespace Go.Proofs.Ytafjmedjaepimaa.accl
open Go.ChangeShapes Go.WideShapes Go.ChangeAt Go.RowKit Go.Joins
open Go.Proofs.Ytafjmedjaepimaa.kit Go.Proofs.Ytafjmedjaepimaa.mapkit Go.Proofs.Ytafjmedjaepimaa.byt Go.Proofs.Ytafjmedjaepimaa.own Go.Proofs.Ytafjmedjaepimaa.accd Go.Proofs.Ytafjmedjaepimaa.acca Go.Proofs.Ytafjmedjaepimaa.accb Go.Proofs.Ytafjmedjaepimaa.acck Go.Proofs.Ytafjmedjaepimaa.acce Go.Proofs.Ytafjmedjaepimaa.accf Go.Proofs.Ytafjmedjaepimaa.accg Go.Proofs.Ytafjmedjaepimaa.acch Go.Proofs.Ytafjmedjaepimaa.acci Go.Proofs.Ytafjmedjaepimaa.accj Go.Proofs.Ytafjmedjaepimaa.accr
set_option linter.unusedVariables false
set_option linter.unusedSimpArgs false
set_option maxHeartbeats 1000000
set_option maxRecDepth 100000

theorem less_iff {a b c d : Int} : lessB a b c d = true ↔ a < c ∨ a = c ∧ b < d := by simp [lessB]
theorem less_not {a b c d : Int} : lessB a b c d = false ↔ ¬ (a < c ∨ a = c ∧ b < d) := by rw [← less_iff]; simp
theorem less_self (a b : Int) : lessB a b a b = false := by rw [less_not]; omega
/-- No vote's ballot is above the promise. -/
def Bal (A : AS) : Prop := ∀ v ∈ A.vs, lessB A.r A.n v.r v.n = false
theorem acc0 {A : AS} {v : V4} (h : accE A.r A.n A.first v = 0) : realB v.r v.n = true ∧ v.l.length ≤ 2048 ∧ lessB v.r v.n A.r A.n = false ∧ A.first ≤ v.s ∧ v.s < A.first + 16 := by
  rw [accE] at h
  split at h
  · omega
  · rename_i h1
    split at h
    · omega
    · rename_i h2
      split at h
      · omega
      · split at h
        · omega
        · refine ⟨?_, by omega, by simpa using h2, by omega, by omega⟩
          cases hh : realB v.r v.n with
          | true => rfl
          | false => exact absurd (.inl hh) h1
theorem prep0 {A : AS} {r n : Int} (h : prepE A r n = 0) : realB r n = true ∧ lessB r n A.r A.n = false := by
  rw [prepE] at h
  split at h
  · omega
  · rename_i h1
    split at h
    · omega
    · rename_i h2
      exact ⟨by simpa using h1, by simpa using h2⟩
theorem mem_put4 {vs : List V4} {v x : V4} : x ∈ put4 vs v ↔ x = v ∨ x ∈ vs ∧ x.s ≠ v.s := by
  rw [put4, List.mem_append, List.mem_cons, List.mem_filter, List.mem_filter]
  simp only [decide_eq_true_eq]
  constructor
  · rintro (⟨h, h2⟩ | h | ⟨h, h2⟩)
    · exact .inr ⟨h, by omega⟩
    · exact .inl h
    · exact .inr ⟨h, by omega⟩
  · rintro (h | ⟨h, h2⟩)
    · exact .inr (.inl h)
    · rcases Int.lt_or_gt_of_ne h2 with h3 | h3
      · exact .inl ⟨h, h3⟩
      · exact .inr (.inr ⟨h, h3⟩)
theorem mem_from4 {vs : List V4} {d : Int} {x : V4} : x ∈ from4 vs d ↔ x ∈ vs ∧ d ≤ x.s := by simp [from4, List.mem_filter]
theorem bal_op {A : AS} (h : Bal A) (o : OpV) : Bal (opS A o) := by
  rw [opS]
  split
  · rw [prepS]
    split
    · rename_i hE
      have h2 := (prep0 hE).2
      intro v hv
      have h1 := h v hv
      simp only [less_not] at *
      omega
    · exact h
  · split
    · rw [forgetS]
      split
      · intro v hv
        exact h v (mem_from4.1 hv).1
      · exact h
    · rw [accS]
      split
      · rename_i hE
        obtain ⟨-, -, h2, -, -⟩ := acc0 hE
        intro v hv
        rcases mem_put4.1 hv with rfl | ⟨hv, -⟩
        · exact less_self _ _
        · have h1 := h v hv
          simp only [less_not, lv] at *
          omega
      · exact h
theorem bal_st {A : AS} (h : Bal A) : ∀ l : List OpV, Bal (stOf A l) := by
  intro l
  induction l generalizing A with
  | nil => exact h
  | cons o l ih => exact ih (bal_op h o)
theorem bal_start : Bal startS := by intro v hv; simp [startS] at hv
/-- What a call keeps. -/
theorem op_keeps (A : AS) (o : OpV) (h : Bal A) : lessB (opS A o).r (opS A o).n A.r A.n = false ∧ A.first ≤ (opS A o).first ∧
    ∀ v ∈ A.vs, v.s < (opS A o).first ∨ ∃ x ∈ (opS A o).vs, x.s = v.s ∧ lessB x.r x.n v.r v.n = false := by
  have hself : ∀ v ∈ A.vs, v.s < A.first ∨ ∃ x ∈ A.vs, x.s = v.s ∧ lessB x.r x.n v.r v.n = false := fun v hv => .inr ⟨v, hv, rfl, less_self _ _⟩
  rw [opS]
  split
  · rw [prepS]
    split
    · rename_i hE
      exact ⟨(prep0 hE).2, Int.le_refl _, hself⟩
    · exact ⟨less_self _ _, Int.le_refl _, hself⟩
  · split
    · rw [forgetS]
      split
      · rename_i hf
        refine ⟨less_self _ _, by have := hf.1; show A.first ≤ o.s; omega, fun v hv => ?_⟩
        by_cases hs : v.s < o.s
        · exact .inl hs
        · exact .inr ⟨v, mem_from4.2 ⟨hv, by omega⟩, rfl, less_self _ _⟩
      · exact ⟨less_self _ _, Int.le_refl _, hself⟩
    · rw [accS]
      split
      · rename_i hE
        obtain ⟨-, -, h2, -, -⟩ := acc0 hE
        refine ⟨h2, Int.le_refl _, fun v hv => ?_⟩
        by_cases hs : v.s = (lv o.vt).s
        · refine .inr ⟨lv o.vt, mem_put4.2 (.inl rfl), hs.symm, ?_⟩
          have h1 := h v hv
          simp only [less_not] at *
          omega
        · exact .inr ⟨v, mem_put4.2 (.inr ⟨hv, hs⟩), rfl, less_self _ _⟩
      · exact ⟨less_self _ _, Int.le_refl _, hself⟩

/-- An acceptor's votes stand by rising slots, near enough. -/
theorem is_ord {w : World} {base b mb : Nat} {A : AS} (h : AccIs w base b mb A) : A.vs.Pairwise (fun x y => x.s < y.s) := by
  obtain ⟨vs, h1, h2⟩ := h
  rw [← h2]
  exact List.pairwise_map.2 h1.ord
theorem is_rng {w : World} {base b mb : Nat} {A : AS} (h : AccIs w base b mb A) : ∀ v ∈ A.vs, A.first ≤ v.s ∧ v.s < A.first + 16 := by
  obtain ⟨vs, h1, h2⟩ := h
  rw [← h2]
  intro v hv
  obtain ⟨x, hx, rfl⟩ := List.mem_map.1 hv
  exact h1.rng x hx
theorem is_len {w : World} {base b mb : Nat} {A : AS} (h : AccIs w base b mb A) : A.vs.length ≤ 16 := by
  obtain ⟨vs, h1, h2⟩ := h
  rw [← h2, List.length_map]
  exact h1.len
theorem is_one {w : World} {base b mb : Nat} {A : AS} (h : AccIs w base b mb A) : 1 ≤ A.first ∧ A.first ≤ 1099511627776 := by
  obtain ⟨vs, h1, h2⟩ := h
  exact h1.one
theorem is_fit {w : World} {base b mb : Nat} {A : AS} (h : AccIs w base b mb A) : ∀ v ∈ A.vs, v.l.length ≤ 2048 := by
  obtain ⟨vs, h1, h2⟩ := h
  rw [← h2]
  intro v hv
  obtain ⟨x, hx, rfl⟩ := List.mem_map.1 hv
  exact h1.fit x hx
theorem is_lt {w : World} {base b mb : Nat} {A : AS} (h : AccIs w base b mb A) : b < w.heap.size ∧ mb < w.heap.size := by
  obtain ⟨vs, h1, h2⟩ := h
  obtain ⟨es, cl, hm⟩ := h1.map.obj
  exact ⟨(kit.blk h1.blk).2.2, (Array.getElem?_eq_some_iff.1 hm).1⟩
/-- A row stays while an acceptor turns. -/
theorem RowV.keep {w w' : World} {base b mb : Nat} {A : AS} {v : Value} {xs : List Vt} (h : RowV w v xs) (hA : AccIs w base b mb A) (hk : Keep (fun k => k = b ∨ k = mb) w w') : RowV w' v xs := by
  obtain ⟨vs, h1, h2⟩ := hA
  obtain ⟨⟨bs, a, c, e, hr⟩, hrd⟩ := h
  exact ⟨⟨bs, a, c, e, h1.row hk hr (by decide)⟩, fun x hx => acc_rd h1 hk (hrd x hx)⟩
/-- What Votes tells, as a row. -/
theorem votes_row (w : World) (base b mb : Nat) (A : AS) (h : AccIs w base b mb A) :
    Calls Try.prog 16 #[.pointer (some ⟨b, 0, none⟩)] w fun e w' => ∃ a c xs, e = .returned (.slice a xs.length c) ∧ RowV w' (.slice a xs.length c) xs ∧ xs.map lv = A.vs ∧ Below w.heap.size w w' := by
  refine (votes_ok w base b mb A h).mono ?_
  rintro e w' ⟨v, rfl, ht, hb⟩
  obtain ⟨xs, h1, h2, h3⟩ := told_row ht (is_fit h)
  obtain ⟨a, c, rfl⟩ := h1.shape
  exact ⟨a, c, xs, rfl, h1, h2, hb⟩

theorem lessL (r1 n1 r2 n2 : Int) (w : World) :
    Calls Try.prog 24 #[.agg #[.int .i64 r1, .int .i64 n1], .agg #[.int .i64 r2, .int .i64 n2]] w fun e w' => e = .returned (.bool (lessB r1 n1 r2 n2)) ∧ Below w.heap.size w w' := by
  unfold lessB
  by_cases h1 : r1 < r2
  · have d1 : decide (r1 < r2) = true := decide_eq_true h1
    go_enter Try.func24, Try.ntmps24
    go_wp2_with fail
    go_ret
    exact ⟨by simp [h1], below_new2 _ _ _⟩
  · have d1 : decide (r1 < r2) = false := decide_eq_false h1
    by_cases h2 : r1 = r2
    · subst h2
      go_enter Try.func24, Try.ntmps24
      go_wp2_with fail
      go_ret
      exact ⟨by simp, below_new2 _ _ _⟩
    · have d2 : (r1 == r2) = false := by simpa using h2
      go_enter Try.func24, Try.ntmps24
      go_wp2_with fail
      go_ret
      exact ⟨by simp [h1, h2], below_new2 _ _ _⟩
end Go.Proofs.Ytafjmedjaepimaa.accl
