/-
  Both Cuts, whatever the length.
-/
import Derived.Test.YtgpkenbefolegaaDoorRefCut
namespace Go.Proofs.YtgpkenbefolegaaDoor.cut
open Go.ChangeShapes Go.WideShapes Go.ChangeAt Go.RowKit
open Go.Proofs.YtgpkenbefolegaaDoor.kit Go.Proofs.YtgpkenbefolegaaDoor.byt Go.Proofs.YtgpkenbefolegaaDoor.sum
set_option linter.unusedVariables false
set_option linter.unusedSimpArgs false

/-- What both Cuts tell, whatever the length: the pieces, or none and ErrLong. -/
def GivesAll (w : World) (l : List Nat) (nn : Nat) (code : Int) (e : Ending) (w' : World) : Prop :=
  ∃ v ps, e = .returned (.tuple #[v, .int .i64 code]) ∧ PiecesAt w' w.heap.size v ps ∧ ps.length = nn ∧ (∀ i (h : i < ps.length), IsPart l i ps[i]) ∧ Below w.heap.size w w'
def nnOf (l : List Nat) : Nat := if l.length ≤ 8192 then nOf l else 0
def codeOf (l : List Nat) : Int := if l.length ≤ 8192 then 0 else 22
theorem nnOf_le (l : List Nat) : nnOf l ≤ 1048576 := by
  unfold nnOf nOf
  split <;> omega
theorem cut_all (l : List Nat) (a : Option Addr) (cap : Nat) (w : World) (hl : l.length ≤ 140737488351232) (hlc : l.length ≤ cap) (hcm : cap ≤ 9223372036854775807) (hn : a = none → l.length = 0 ∧ cap = 0) (hby : Byt l) (ht : Tab w) (hat : Lie w a (bcells l)) :
    Calls Tryd.prog 10 #[.slice a l.length cap] w (GivesAll w l (nnOf l) (codeOf l)) := by
  by_cases h : l.length ≤ 8192
  · refine (cut_any l a cap w h hlc hcm hn hby ht hat).mono fun e w' ⟨v, ps, he, h1, h2, h3, h4⟩ => ⟨v, ps, ?_, h1, ?_, h3, h4⟩
    · rw [he, codeOf, if_pos h]
    · rw [h2, nnOf, if_pos h]
  · refine (cut_long l a cap w (by omega) (by omega)).mono ?_
    rintro e w' ⟨rfl, rfl⟩
    refine ⟨.slice none 0 0, [], by rw [codeOf, if_neg h], ⟨World.ownsRow_nil _ _ _ _, by simp⟩, by rw [nnOf, if_neg h]; rfl, by simp, Below.refl _ _⟩
theorem ref_all (l : List Nat) (a : Option Addr) (cap : Nat) (w : World) (hl : l.length ≤ 140737488351232) (hlc : l.length ≤ cap) (hcm : cap ≤ 9223372036854775807) (hn : a = none → l.length = 0 ∧ cap = 0) (hby : Byt l) (hat : Lie w a (bcells l)) :
    Calls Tryd.prog 11 #[.slice a l.length cap] w (GivesAll w l (nnOf l) (codeOf l)) := by
  by_cases h : l.length ≤ 8192
  · refine (ref_any l a cap w h hlc hcm hn hby hat).mono fun e w' ⟨v, ps, he, h1, h2, h3, h4⟩ => ⟨v, ps, ?_, h1, ?_, h3, h4⟩
    · rw [he, codeOf, if_pos h]
    · rw [h2, nnOf, if_pos h]
  · refine (ref_long l a cap w (by omega) (by omega)).mono ?_
    rintro e w' ⟨rfl, rfl⟩
    refine ⟨.slice none 0 0, [], by rw [codeOf, if_neg h], ⟨World.ownsRow_nil _ _ _ _, by simp⟩, by rw [nnOf, if_neg h]; rfl, by simp, Below.refl _ _⟩

end Go.Proofs.YtgpkenbefolegaaDoor.cut
