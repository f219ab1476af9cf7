/-
  Contract of bytes.Equal.
-/
import Derived.Test.YtodoncmielfbeaaByt
import Derived.Shelf.Bytes.SlSmallAll
namespace Go.Proofs.Ytodoncmielfbeaa.byt
open Go.ChangeShapes Go.WideShapes Go.ChangeAt Go.RowKit
open Go.Proofs.Ytodoncmielfbeaa.kit
set_option linter.unusedVariables false
set_option linter.unusedSimpArgs false
set_option maxHeartbeats 1000000
set_option maxRecDepth 100000

def ints (l : List Nat) : List Int := l.map fun x : Nat => (x : Int)
theorem conv_any (l : List Nat) (x : Option Addr) (c : Nat) (w : World) (h : Lie w x (bcells l)) :
    (convert 37 9 (.slice x l.length c)).run Try.prog w = .ok (.string (strOfNums (ints l))) w := by
  by_cases h0 : l = []
  · subst h0
    exact run_convert_bytes_zero w _ _ Try.underlying37 Try.underlying5 x c _ Try.underlying9
  · rcases h with h | ⟨b, off, rfl, h1, h2⟩
    · exact absurd (List.map_eq_nil_iff.1 h) h0
    · refine run_convert_bytes_arg w _ _ Try.underlying37 Try.underlying5 b off l.length c (ints l) (by simp [ints]) (fun i hi => ?_) _ Try.underlying9
      rw [h2 i (by simpa [bcells] using hi), bcells_get hi]
      simp [ints, List.getD, hi]

theorem ints_inj {a b : List Nat} (ha : Byt a) (hb : Byt b) : (Lib.bytesOf (ints a) == Lib.bytesOf (ints b)) = sameB a b := by
  induction a generalizing b with
  | nil => cases b <;> simp [Lib.bytesOf, ints, sameB]
  | cons x a ih =>
    cases b with
    | nil => simp [Lib.bytesOf, ints, sameB]
    | cons y b =>
      have := ih (b := b) (fun z hz => ha z (List.mem_cons_of_mem _ hz)) (fun z hz => hb z (List.mem_cons_of_mem _ hz))
      have hx := ha x (List.mem_cons_self ..)
      have hy := hb y (List.mem_cons_self ..)
      simp only [Lib.bytesOf, ints, sameB, List.map_cons, List.cons_beq_cons] at this ⊢
      rw [this]
      congr 1
      by_cases e : x = y
      · subst e; simp
      · have h1 : (UInt8.ofNat x == UInt8.ofNat y) = false := by
          rw [beq_eq_false_iff_ne]
          intro h
          have h2 := congrArg UInt8.toNat h
          simp at h2
          omega
        have h3 : (x == y) = false := by simpa using e
        simpa [h3] using h1

theorem equal_any (a b : List Nat) (x y : Option Addr) (cx cy : Nat) (w : World) (ha : Byt a) (hb : Byt b) (hx : Lie w x (bcells a)) (hy : Lie w y (bcells b)) :
    Calls Try.prog 37 #[.slice x a.length cx, .slice y b.length cy] w fun e w' => e = .returned (.bool (sameB a b)) ∧ w = w' := by
  have e1 := conv_any a x cx w hx
  have e2 := conv_any b y cy w hy
  rw [← ints_inj ha hb, ← Lib.strOfNums_toList, ← Lib.strOfNums_toList]
  obtain ⟨s1, h1⟩ : ∃ s, s = strOfNums (ints a) := ⟨_, rfl⟩
  obtain ⟨s2, h2⟩ : ∃ s, s = strOfNums (ints b) := ⟨_, rfl⟩
  rw [← h1] at e1 ⊢
  rw [← h2] at e2 ⊢
  clear h1 h2 ha hb hx hy
  go_enter Try.func37, Try.ntmps37
  go_wp2_with fail
  go_ret
  exact ⟨rfl, rfl⟩
end Go.Proofs.Ytodoncmielfbeaa.byt
