/-
  An acceptor's Votes, First and New in data form; what is past a slot.
-/
import Derived.Test.YtodoncmielfbeaaAccC
namespace Go.Proofs.Ytodoncmielfbeaa.acce
open Go.ChangeShapes Go.WideShapes Go.ChangeAt Go.RowKit
open Go.Proofs.Ytodoncmielfbeaa.kit Go.Proofs.Ytodoncmielfbeaa.mapkit Go.Proofs.Ytodoncmielfbeaa.byt Go.Proofs.Ytodoncmielfbeaa.own Go.Proofs.Ytodoncmielfbeaa.accd Go.Proofs.Ytodoncmielfbeaa.acca Go.Proofs.Ytodoncmielfbeaa.accb Go.Proofs.Ytodoncmielfbeaa.acck Go.Proofs.Ytodoncmielfbeaa.accc
set_option linter.unusedVariables false
set_option linter.unusedSimpArgs false
set_option maxHeartbeats 1000000
set_option maxRecDepth 100000

def fgt (first d : Int) : Prop := first < d ∧ d ≤ 1099511627776
instance (first d : Int) : Decidable (fgt first d) := inferInstanceAs (Decidable (_ ∧ _))
def from4 (vs : List V4) (d : Int) : List V4 := vs.filter (fun v => decide (d ≤ v.s))
def forgetS (A : AS) (d : Int) : AS := if fgt A.first d then ⟨A.r, A.n, d, from4 A.vs d⟩ else A
def forgetE (A : AS) (d : Int) : Int := if fgt A.first d then (A.vs.length : Int) - (from4 A.vs d).length else 0
/-- What is left when the keys ts have been looked at. -/
def past (vs : List Vt) (d : Int) (ts : List Int) : List Vt := vs.filter (fun v => !(decide (v.s < d) && ts.contains v.s))
theorem past_nil (vs : List Vt) (d : Int) : past vs d [] = vs := by simp [past]
theorem past_step (vs : List Vt) (d : Int) (ts : List Int) (s : Int) : past vs d (ts ++ [s]) = if s < d then del (past vs d ts) s else past vs d ts := by
  by_cases h : s < d
  · rw [if_pos h, del, past, past, List.filter_filter]
    congr 1
    funext v
    by_cases hv : v.s = s
    · simp [hv, h]
    · simp [hv]
  · rw [if_neg h, past, past]
    refine List.filter_congr (fun v _ => ?_)
    by_cases hv : v.s = s
    · simp [hv, h]
    · simp [hv]
theorem past_all {vs : List Vt} {d : Int} {ss : List Int} (h : KeysOf (accd.look vs) ss) : past vs d ss = vs.filter (fun v => decide (d ≤ v.s)) := by
  refine List.filter_congr (fun v hv => ?_)
  have : v.s ∈ ss := (h.2 v.s).2 (look_some.2 (List.mem_map_of_mem hv))
  have h2 : ss.contains v.s = true := by simpa using this
  rw [h2, Bool.and_true]
  by_cases hd : v.s < d
  · simp [hd]
  · simp [hd]; omega
theorem past_ord {vs : List Vt} (h : Ord vs) (d : Int) (ts : List Int) : Ord (past vs d ts) := List.Pairwise.filter _ h

theorem from_lv (vs : List Vt) (d : Int) : (vs.filter (fun v => decide (d ≤ v.s))).map lv = from4 (vs.map lv) d := by
  rw [from4, List.filter_map]
  rfl
theorem votes_ok (w : World) (base b mb : Nat) (A : AS) (h : AccIs w base b mb A) :
    Calls Try.prog 26 #[.pointer (some ⟨b, 0, none⟩)] w fun e w' => ∃ v, e = .returned v ∧ accc.Told w w' v A.vs ∧ Below w.heap.size w w' := by
  obtain ⟨vs, h1, h2⟩ := h
  rw [← h2]
  exact votes_at w base b mb _ _ _ vs h1
def startS : AS := ⟨0, 0, 1, []⟩
theorem newA_ok (w : World) : Calls Try.prog 20 #[] w fun e w' => e = .returned (.pointer (some ⟨w.heap.size + 1, 0, none⟩)) ∧ AccIs w' w.heap.size (w.heap.size + 1) w.heap.size startS ∧ Below w.heap.size w w' := by
  refine (new_ok w).mono ?_
  rintro e w' ⟨rfl, h, hb⟩
  exact ⟨rfl, ⟨[], h, rfl⟩, hb⟩
end Go.Proofs.Ytodoncmielfbeaa.acce
