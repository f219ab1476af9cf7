/-
  No cell of these rows narrows 'for every input' (looked for: loops, veiled, ifaces, maps, wideKeys, modest, calm, conditions, laid).
  DERIVED. THE GIVEN ROWS OF THIS SEAT. 5 by the template 'for every input the law returns true; each argument reads behind the call as it read before'; 0 by the template 'total and deterministic' (their statements: YtejjnhgiijhglaaTotals.lean).
  GIVEN WITH THE SEED: the statements are not yours to turn. If you find one false, say at which input.
  Laid BY PROGRAM, IN A SANDBOX (cutbox-rows.mjs): the forced cells as the released guide's own fill.sh prints them over the translation 614f4d73b09ef303… (all of the seat's roots in one cut). By AI agents, Wed Nov 11 2026. No macro, syntax, notation, axiom, sorry.
-/
import Derived.Test.YtejjnhgiijhglaaChecked
import GoSem.Claim
import GoSem.ClaimJoined
import GoSem.ClaimMapViews
import Derived.JoinedTies
import Derived.KernelRfl
namespace Go.Proofs.Ytejjnhgiijhglaa
/- THE CELL 'sum', in the pinned program and in every row, IS THE sha256 OF THE DUMP (.gsa) THAT YtejjnhgiijhglaaProg.lean LOADS. Nothing in Lean hashes anything: it is a label: what it is worth is what the hold of that sum in a sandbox is worth. -/
noncomputable def Try.pinned : Pinned := { name := "ytejjnhgiijhglaa", sum := "614f4d73b09ef303e71aa661625a3be347e4f18318bef623b68343bb2d0bf929", checked := Try.checked }
namespace Rows
def none {H : Type} : Left H := { results := [], args := [] }

/-- 'purselaw07.ClockOnce': WHATEVER THE INPUT: true; the input reads as it did. -/
def clockOnceSpec : ChangeSpec := { name := "clockOnce", fn := fun _ => fun
  | [d1, d2, d3] => { results := [.lit (.bool true)], args := [d1, d2, d3] }
  | _ => none }
def clockOnceRow : OpenClaim := { program := "ytejjnhgiijhglaa", sum := "614f4d73b09ef303e71aa661625a3be347e4f18318bef623b68343bb2d0bf929", func := "purse/purselaw07.ClockOnce", spec := "clockOnce", unfollowed := true, recurses := true, apart := false }
def ClockOnceSaid : Prop := clockOnceRow.holds Try.pinned (OpenSpec.ofChange clockOnceSpec)

/-- ITS FALSE NEIGHBOUR: 'it returns false'. Refute it at one input. -/
def clockOnceWrong : ChangeSpec := { name := "clockOnce", fn := fun _ => fun
  | [d1, d2, d3] => { results := [.lit (.bool false)], args := [d1, d2, d3] }
  | _ => none }
def ClockOnceWrongFalsely : Prop := clockOnceRow.holds Try.pinned (OpenSpec.ofChange clockOnceWrong)

/-- 'purselaw07.ClockPlays': WHATEVER THE INPUT: true; the input reads as it did. -/
def clockPlaysSpec : ChangeSpec := { name := "clockPlays", fn := fun _ => fun
  | [d] => { results := [.lit (.bool true)], args := [d] }
  | _ => none }
def clockPlaysRow : OpenClaim := { program := "ytejjnhgiijhglaa", sum := "614f4d73b09ef303e71aa661625a3be347e4f18318bef623b68343bb2d0bf929", func := "purse/purselaw07.ClockPlays", spec := "clockPlays", unfollowed := true, recurses := true, apart := false }
def ClockPlaysSaid : Prop := clockPlaysRow.holds Try.pinned (OpenSpec.ofChange clockPlaysSpec)

/-- ITS FALSE NEIGHBOUR: 'it returns false'. Refute it at one input. -/
def clockPlaysWrong : ChangeSpec := { name := "clockPlays", fn := fun _ => fun
  | [d] => { results := [.lit (.bool false)], args := [d] }
  | _ => none }
def ClockPlaysWrongFalsely : Prop := clockPlaysRow.holds Try.pinned (OpenSpec.ofChange clockPlaysWrong)

/-- 'purselaw07.ClockOrder': WHATEVER THE INPUT: true; the input reads as it did. -/
def clockOrderSpec : ChangeSpec := { name := "clockOrder", fn := fun _ => fun
  | [d] => { results := [.lit (.bool true)], args := [d] }
  | _ => none }
def clockOrderRow : OpenClaim := { program := "ytejjnhgiijhglaa", sum := "614f4d73b09ef303e71aa661625a3be347e4f18318bef623b68343bb2d0bf929", func := "purse/purselaw07.ClockOrder", spec := "clockOrder", unfollowed := true, recurses := true, apart := false }
def ClockOrderSaid : Prop := clockOrderRow.holds Try.pinned (OpenSpec.ofChange clockOrderSpec)

/-- ITS FALSE NEIGHBOUR: 'it returns false'. Refute it at one input. -/
def clockOrderWrong : ChangeSpec := { name := "clockOrder", fn := fun _ => fun
  | [d] => { results := [.lit (.bool false)], args := [d] }
  | _ => none }
def ClockOrderWrongFalsely : Prop := clockOrderRow.holds Try.pinned (OpenSpec.ofChange clockOrderWrong)

/-- 'purselaw07.ClockForks': WHATEVER THE INPUT: true; the input reads as it did. -/
def clockForksSpec : ChangeSpec := { name := "clockForks", fn := fun _ => fun
  | [d1, d2] => { results := [.lit (.bool true)], args := [d1, d2] }
  | _ => none }
def clockForksRow : OpenClaim := { program := "ytejjnhgiijhglaa", sum := "614f4d73b09ef303e71aa661625a3be347e4f18318bef623b68343bb2d0bf929", func := "purse/purselaw07.ClockForks", spec := "clockForks", unfollowed := true, recurses := true, apart := false }
def ClockForksSaid : Prop := clockForksRow.holds Try.pinned (OpenSpec.ofChange clockForksSpec)

/-- ITS FALSE NEIGHBOUR: 'it returns false'. Refute it at one input. -/
def clockForksWrong : ChangeSpec := { name := "clockForks", fn := fun _ => fun
  | [d1, d2] => { results := [.lit (.bool false)], args := [d1, d2] }
  | _ => none }
def ClockForksWrongFalsely : Prop := clockForksRow.holds Try.pinned (OpenSpec.ofChange clockForksWrong)

/-- 'purselaw07.ClockNil': WHATEVER THE INPUT: true; the input reads as it did. -/
def clockNilSpec : ChangeSpec := { name := "clockNil", fn := fun _ => fun
  | [d1, d2] => { results := [.lit (.bool true)], args := [d1, d2] }
  | _ => none }
def clockNilRow : OpenClaim := { program := "ytejjnhgiijhglaa", sum := "614f4d73b09ef303e71aa661625a3be347e4f18318bef623b68343bb2d0bf929", func := "purse/purselaw07.ClockNil", spec := "clockNil", unfollowed := true, recurses := true, apart := false }
def ClockNilSaid : Prop := clockNilRow.holds Try.pinned (OpenSpec.ofChange clockNilSpec)

/-- ITS FALSE NEIGHBOUR: 'it returns false'. Refute it at one input. -/
def clockNilWrong : ChangeSpec := { name := "clockNil", fn := fun _ => fun
  | [d1, d2] => { results := [.lit (.bool false)], args := [d1, d2] }
  | _ => none }
def ClockNilWrongFalsely : Prop := clockNilRow.holds Try.pinned (OpenSpec.ofChange clockNilWrong)

/- THE SECOND FORM. 'bulk': how many values and letters a reading holds, each counted each time it is reached (what is shared counts as often as it is met; a slice's spare places count too). A statement '..UptoSaid' is the law's where the arguments, and the package variables that the reading takes, are together of bulk at most 1048576: NARROWER than '..Said'. Prove '..Said' where nothing that the law and all that it calls make is longer than what came in: it says more and counts as full. Else prove '..UptoSaid'. A law counts once. -/
mutual
def uptoBulk {H : Type} : DataW H → Nat
  | .lit (.string bytes) => bytes.length + 1
  | .lit _ => 1
  | .nil => 1
  | .ptr d => uptoBulk d + 1
  | .slice elems spare => uptoBulkAll elems + uptoBulkAll spare + 1
  | .agg parts => uptoBulkAll parts + 1
  | .iface _ d => uptoBulk d + 1
  | .map entries => uptoBulkEntries entries + 1
  | .held _ => 1
def uptoBulkAll {H : Type} : List (DataW H) → Nat
  | [] => 0
  | d :: r => uptoBulk d + uptoBulkAll r
def uptoBulkEntries {H : Type} : List (Lit × DataW H) → Nat
  | [] => 0
  | x :: r => uptoBulkEntry x + uptoBulkEntries r
def uptoBulkEntry {H : Type} : Lit × DataW H → Nat
  | (.string bytes, d) => bytes.length + uptoBulk d + 1
  | (_, d) => uptoBulk d + 1
 end
def uptoSmall : (H : Type) → List (DataW H) → Bool := fun _ ds => decide (uptoBulkAll ds ≤ 1048576)
def OpenSpec.upto (s : _root_.Go.ChangeSpec) : _root_.Go.OpenSpec := { _root_.Go.OpenSpec.ofChange s with cond := some uptoSmall }

/-- 'purselaw07.ClockOnce', WHERE WHAT IT READS IS OF BULK AT MOST 1048576: true; the input reads as it did. -/
def clockOnceUptoRow : OpenClaim := { program := "ytejjnhgiijhglaa", sum := "614f4d73b09ef303e71aa661625a3be347e4f18318bef623b68343bb2d0bf929", func := "purse/purselaw07.ClockOnce", spec := "clockOnce", unfollowed := true, recurses := true, apart := false, narrowed := true }
def ClockOnceUptoSaid : Prop := clockOnceUptoRow.holds Try.pinned (OpenSpec.upto clockOnceSpec)

/-- 'purselaw07.ClockPlays', WHERE WHAT IT READS IS OF BULK AT MOST 1048576: true; the input reads as it did. -/
def clockPlaysUptoRow : OpenClaim := { program := "ytejjnhgiijhglaa", sum := "614f4d73b09ef303e71aa661625a3be347e4f18318bef623b68343bb2d0bf929", func := "purse/purselaw07.ClockPlays", spec := "clockPlays", unfollowed := true, recurses := true, apart := false, narrowed := true }
def ClockPlaysUptoSaid : Prop := clockPlaysUptoRow.holds Try.pinned (OpenSpec.upto clockPlaysSpec)

/-- 'purselaw07.ClockOrder', WHERE WHAT IT READS IS OF BULK AT MOST 1048576: true; the input reads as it did. -/
def clockOrderUptoRow : OpenClaim := { program := "ytejjnhgiijhglaa", sum := "614f4d73b09ef303e71aa661625a3be347e4f18318bef623b68343bb2d0bf929", func := "purse/purselaw07.ClockOrder", spec := "clockOrder", unfollowed := true, recurses := true, apart := false, narrowed := true }
def ClockOrderUptoSaid : Prop := clockOrderUptoRow.holds Try.pinned (OpenSpec.upto clockOrderSpec)

/-- 'purselaw07.ClockForks', WHERE WHAT IT READS IS OF BULK AT MOST 1048576: true; the input reads as it did. -/
def clockForksUptoRow : OpenClaim := { program := "ytejjnhgiijhglaa", sum := "614f4d73b09ef303e71aa661625a3be347e4f18318bef623b68343bb2d0bf929", func := "purse/purselaw07.ClockForks", spec := "clockForks", unfollowed := true, recurses := true, apart := false, narrowed := true }
def ClockForksUptoSaid : Prop := clockForksUptoRow.holds Try.pinned (OpenSpec.upto clockForksSpec)

/-- 'purselaw07.ClockNil', WHERE WHAT IT READS IS OF BULK AT MOST 1048576: true; the input reads as it did. -/
def clockNilUptoRow : OpenClaim := { program := "ytejjnhgiijhglaa", sum := "614f4d73b09ef303e71aa661625a3be347e4f18318bef623b68343bb2d0bf929", func := "purse/purselaw07.ClockNil", spec := "clockNil", unfollowed := true, recurses := true, apart := false, narrowed := true }
def ClockNilUptoSaid : Prop := clockNilUptoRow.holds Try.pinned (OpenSpec.upto clockNilSpec)

end Rows
end Go.Proofs.Ytejjnhgiijhglaa
