/-
  What a list of entries that was told is, and that the order of promises plays no part.
-/
import Derived.Test.YtodoncmielfbeaaChL
namespace Go.Proofs.Ytodoncmielfbeaa.cht
open Go.ChangeShapes Go.WideShapes Go.ChangeAt Go.RowKit Go.Joins
open Go.Proofs.Ytodoncmielfbeaa.kit Go.Proofs.Ytodoncmielfbeaa.byt Go.Proofs.Ytodoncmielfbeaa.own Go.Proofs.Ytodoncmielfbeaa.accd Go.Proofs.Ytodoncmielfbeaa.chd Go.Proofs.Ytodoncmielfbeaa.chr Go.Proofs.Ytodoncmielfbeaa.che Go.Proofs.Ytodoncmielfbeaa.chf Go.Proofs.Ytodoncmielfbeaa.chq Go.Proofs.Ytodoncmielfbeaa.cho Go.Proofs.Ytodoncmielfbeaa.chc
set_option linter.unusedVariables false
set_option linter.unusedSimpArgs false
set_option maxHeartbeats 1000000

/-- A list of entries that was told is a row that can be read. -/
theorem out_row {w w' : World} {a : Option Addr} {c : Nat} {es : List Et} {L : List (Int × List Nat)} (h : OutE w w' a c es L) (hl : L.length ≤ 1024) : RowE w' a es := h.own.rows (by have := h.size; omega) h.len
theorem openL_len (nodes from_ : Int) (L : List chp.Pr) : (openL nodes from_ L).length ≤ 1024 := by
  unfold openL
  split
  · rename_i h
    rw [ents_len]
    unfold openE at h
    unfold openN
    split at h
    · simp at h
    · split at h
      · simp at h
      · split at h
        · simp at h
        · split at h
          · simp at h
          · omega
  · simp
theorem chosenA_len (nodes : Int) (l : List Pt) : (chosenA nodes (l.map pv)).length ≤ 1024 := by
  unfold chosenA
  split
  · rename_i h
    refine Nat.le_trans (chosenL_len _ _ _) ?_
    have h16 := right_size h
    have := slots_len (k := 16) (slots_of (l.map pv)) (fun p hp => by
      obtain ⟨q, hq, rfl⟩ := List.mem_map.1 hp
      simpa [pv] using h16.2 q hq)
    have h5 := h16.1
    rw [List.length_map] at this
    omega
  · simp

theorem one_perm {α : Type} {l s : List α} (hp : l.Perm s) (h : l.length ≤ 1) : l = s := by
  match l, h with
  | [], _ => exact (List.Perm.nil_eq hp)
  | [x], _ => exact (List.perm_singleton.1 hp.symm).symm
theorem node_one {L : List chp.Pr} (h : L.Pairwise (fun a b => a.node ≠ b.node)) (n : Int) : (L.filter (fun p => decide (p.node = n))).length ≤ 1 := by
  have h2 : (L.filter (fun p => decide (p.node = n))).Pairwise (fun a b => a.node ≠ b.node) := h.filter _
  have h3 : ∀ p ∈ L.filter (fun p => decide (p.node = n)), p.node = n := fun p hp => of_decide_eq_true (List.mem_filter.1 hp).2
  match hL : L.filter (fun p => decide (p.node = n)) with
  | [] => rw [hL]; simp
  | [x] => rw [hL]; simp
  | x :: y :: t =>
    rw [hL] at h2 h3
    have := (List.pairwise_cons.1 h2).1 y List.mem_cons_self
    exact absurd ((h3 x List.mem_cons_self).trans (h3 y (List.mem_cons_of_mem _ List.mem_cons_self)).symm) this
theorem forS_perm {nodes : Int} {L M : List chp.Pr} (hr : chp.Right nodes L) (hp : L.Perm M) (s : Int) : chp.forS L s = chp.forS M s := by
  unfold chp.forS
  exact chp.fm_congr (fun n _ => by rw [one_perm (hp.filter _) (node_one hr.2.2 n)])
theorem openE_perm {nodes from_ : Int} {L M : List chp.Pr} (hp : L.Perm M) : openE nodes from_ L = openE nodes from_ M := by
  unfold openE
  rw [topL_perm hp, hp.length_eq]
  by_cases h : chp.Right nodes L
  · have h2 : chp.Right nodes M := (chp.right_perm hp).1 h
    simp only [h, h2, not_true, if_false]
  · have h2 : ¬ chp.Right nodes M := fun hn => h ((chp.right_perm hp).2 hn)
    simp only [h, h2, not_false_eq_true, if_true]
theorem openE_right {nodes from_ : Int} {L : List chp.Pr} (h : openE nodes from_ L = 0) : chp.Right nodes L ∧ 1 ≤ from_ ∧ from_ ≤ 1099511627776 ∧ nodes < 2 * (L.length : Int) := by
  unfold openE at h
  split at h
  · simp at h
  · rename_i h1
    split at h
    · simp at h
    · split at h
      · simp at h
      · exact ⟨Decidable.not_not.1 h1, by omega, by omega, by omega⟩
theorem openL_perm {nodes from_ : Int} {L M : List chp.Pr} (hp : L.Perm M) : openL nodes from_ L = openL nodes from_ M := by
  unfold openL
  rw [← openE_perm hp]
  by_cases h : openE nodes from_ L = 0
  · rw [if_pos h, if_pos h]
    have hr := (openE_right h).1
    have e : openN from_ L = openN from_ M := by unfold openN; rw [topL_perm hp]
    unfold ents
    rw [e]
    refine List.map_congr_left (fun i _ => ?_)
    unfold valS
    rw [forS_perm hr hp]
  · rw [if_neg h, if_neg h]
theorem chosenA_perm {nodes : Int} {L M : List chp.Pr} (hp : L.Perm M) : chosenA nodes L = chosenA nodes M := by
  unfold chosenA
  by_cases h : chp.Right nodes L
  · rw [if_pos h, if_pos ((chp.right_perm hp).1 h)]
    have e : slotsOf L = slotsOf M := slots_one (slots_perm (slots_of L) hp) (slots_of M)
    unfold chosenL
    rw [e]
    congr 1
    funext s
    unfold chS wonS
    rw [forS_perm h hp]
  · rw [if_neg h, if_neg (fun hn => h ((chp.right_perm hp).2 hn))]
theorem ents_get (L : List chp.Pr) (from_ : Int) (n i : Nat) (h : i < (ents L from_ n).length) : ((ents L from_ n)[i]).1 = from_ + i := by
  simp [ents]
end Go.Proofs.Ytodoncmielfbeaa.cht
