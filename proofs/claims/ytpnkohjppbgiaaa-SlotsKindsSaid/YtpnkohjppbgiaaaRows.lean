/-
  No cell of these rows narrows 'for every input' (looked for: loops, veiled, ifaces, maps, wideKeys, modest, calm, conditions, laid).
  DERIVED. THE GIVEN ROWS OF THIS SEAT. 6 by the template 'for every input the law returns true; each argument reads behind the call as it read before'; 0 by the template 'total and deterministic' (their statements: YtpnkohjppbgiaaaTotals.lean).
  GIVEN WITH THE SEED: the statements are not yours to turn. If you find one false, say at which input.
  Laid BY PROGRAM, IN A SANDBOX (cutbox-rows.mjs): the forced cells as the released guide's own fill.sh prints them over the translation f6eccb7727355480… (all of the seat's roots in one cut). By AI agents, Wed Nov 11 2026. No macro, syntax, notation, axiom, sorry.
-/
import Derived.Test.YtpnkohjppbgiaaaChecked
import GoSem.Claim
import GoSem.ClaimJoined
import GoSem.ClaimMapViews
import Derived.JoinedTies
import Derived.KernelRfl
namespace Go.Proofs.Ytpnkohjppbgiaaa
/- THE CELL 'sum', in the pinned program and in every row, IS THE sha256 OF THE DUMP (.gsa) THAT YtpnkohjppbgiaaaProg.lean LOADS. Nothing in Lean hashes anything: it is a label: what it is worth is what the hold of that sum in a sandbox is worth. -/
noncomputable def Try.pinned : Pinned := { name := "ytpnkohjppbgiaaa", sum := "f6eccb77273554802224d5881cfcf920803f0e7a179103f43aaa0bb4df7bb2db", checked := Try.checked }
namespace Rows
def none {H : Type} : Left H := { results := [], args := [] }

/-- 'purselaw08.SlotsWindow': WHATEVER THE INPUT: true; the input reads as it did. -/
def slotsWindowSpec : ChangeSpec := { name := "slotsWindow", fn := fun _ => fun
  | [d1, d2, d3, d4, d5] => { results := [.lit (.bool true)], args := [d1, d2, d3, d4, d5] }
  | _ => none }
def slotsWindowRow : OpenClaim := { program := "ytpnkohjppbgiaaa", sum := "f6eccb77273554802224d5881cfcf920803f0e7a179103f43aaa0bb4df7bb2db", func := "purse/purselaw08.SlotsWindow", spec := "slotsWindow", unfollowed := true, recurses := true, apart := false }
def SlotsWindowSaid : Prop := slotsWindowRow.holds Try.pinned (OpenSpec.ofChange slotsWindowSpec)

/-- ITS FALSE NEIGHBOUR: 'it returns false'. Refute it at one input. -/
def slotsWindowWrong : ChangeSpec := { name := "slotsWindow", fn := fun _ => fun
  | [d1, d2, d3, d4, d5] => { results := [.lit (.bool false)], args := [d1, d2, d3, d4, d5] }
  | _ => none }
def SlotsWindowWrongFalsely : Prop := slotsWindowRow.holds Try.pinned (OpenSpec.ofChange slotsWindowWrong)

/-- 'purselaw08.SlotsKinds': WHATEVER THE INPUT: true; the input reads as it did. -/
def slotsKindsSpec : ChangeSpec := { name := "slotsKinds", fn := fun _ => fun
  | [d1, d2, d3] => { results := [.lit (.bool true)], args := [d1, d2, d3] }
  | _ => none }
def slotsKindsRow : OpenClaim := { program := "ytpnkohjppbgiaaa", sum := "f6eccb77273554802224d5881cfcf920803f0e7a179103f43aaa0bb4df7bb2db", func := "purse/purselaw08.SlotsKinds", spec := "slotsKinds", unfollowed := true, recurses := true, apart := false }
def SlotsKindsSaid : Prop := slotsKindsRow.holds Try.pinned (OpenSpec.ofChange slotsKindsSpec)

/-- ITS FALSE NEIGHBOUR: 'it returns false'. Refute it at one input. -/
def slotsKindsWrong : ChangeSpec := { name := "slotsKinds", fn := fun _ => fun
  | [d1, d2, d3] => { results := [.lit (.bool false)], args := [d1, d2, d3] }
  | _ => none }
def SlotsKindsWrongFalsely : Prop := slotsKindsRow.holds Try.pinned (OpenSpec.ofChange slotsKindsWrong)

/-- 'purselaw08.SlotsLeft': WHATEVER THE INPUT: true; the input reads as it did. -/
def slotsLeftSpec : ChangeSpec := { name := "slotsLeft", fn := fun _ => fun
  | [d1, d2, d3, d4] => { results := [.lit (.bool true)], args := [d1, d2, d3, d4] }
  | _ => none }
def slotsLeftRow : OpenClaim := { program := "ytpnkohjppbgiaaa", sum := "f6eccb77273554802224d5881cfcf920803f0e7a179103f43aaa0bb4df7bb2db", func := "purse/purselaw08.SlotsLeft", spec := "slotsLeft", unfollowed := true, recurses := true, apart := false }
def SlotsLeftSaid : Prop := slotsLeftRow.holds Try.pinned (OpenSpec.ofChange slotsLeftSpec)

/-- ITS FALSE NEIGHBOUR: 'it returns false'. Refute it at one input. -/
def slotsLeftWrong : ChangeSpec := { name := "slotsLeft", fn := fun _ => fun
  | [d1, d2, d3, d4] => { results := [.lit (.bool false)], args := [d1, d2, d3, d4] }
  | _ => none }
def SlotsLeftWrongFalsely : Prop := slotsLeftRow.holds Try.pinned (OpenSpec.ofChange slotsLeftWrong)

/-- 'purselaw08.SlotsPlays': WHATEVER THE INPUT: true; the input reads as it did. -/
def slotsPlaysSpec : ChangeSpec := { name := "slotsPlays", fn := fun _ => fun
  | [d1, d2, d3] => { results := [.lit (.bool true)], args := [d1, d2, d3] }
  | _ => none }
def slotsPlaysRow : OpenClaim := { program := "ytpnkohjppbgiaaa", sum := "f6eccb77273554802224d5881cfcf920803f0e7a179103f43aaa0bb4df7bb2db", func := "purse/purselaw08.SlotsPlays", spec := "slotsPlays", unfollowed := true, recurses := true, apart := false }
def SlotsPlaysSaid : Prop := slotsPlaysRow.holds Try.pinned (OpenSpec.ofChange slotsPlaysSpec)

/-- ITS FALSE NEIGHBOUR: 'it returns false'. Refute it at one input. -/
def slotsPlaysWrong : ChangeSpec := { name := "slotsPlays", fn := fun _ => fun
  | [d1, d2, d3] => { results := [.lit (.bool false)], args := [d1, d2, d3] }
  | _ => none }
def SlotsPlaysWrongFalsely : Prop := slotsPlaysRow.holds Try.pinned (OpenSpec.ofChange slotsPlaysWrong)

/-- 'purselaw08.SlotsParts': WHATEVER THE INPUT: true; the input reads as it did. -/
def slotsPartsSpec : ChangeSpec := { name := "slotsParts", fn := fun _ => fun
  | [d1, d2, d3] => { results := [.lit (.bool true)], args := [d1, d2, d3] }
  | _ => none }
def slotsPartsRow : OpenClaim := { program := "ytpnkohjppbgiaaa", sum := "f6eccb77273554802224d5881cfcf920803f0e7a179103f43aaa0bb4df7bb2db", func := "purse/purselaw08.SlotsParts", spec := "slotsParts", unfollowed := true, recurses := true, apart := false }
def SlotsPartsSaid : Prop := slotsPartsRow.holds Try.pinned (OpenSpec.ofChange slotsPartsSpec)

/-- ITS FALSE NEIGHBOUR: 'it returns false'. Refute it at one input. -/
def slotsPartsWrong : ChangeSpec := { name := "slotsParts", fn := fun _ => fun
  | [d1, d2, d3] => { results := [.lit (.bool false)], args := [d1, d2, d3] }
  | _ => none }
def SlotsPartsWrongFalsely : Prop := slotsPartsRow.holds Try.pinned (OpenSpec.ofChange slotsPartsWrong)

/-- 'purselaw08.SlotsNil': WHATEVER THE INPUT: true; the input reads as it did. -/
def slotsNilSpec : ChangeSpec := { name := "slotsNil", fn := fun _ => fun
  | [d] => { results := [.lit (.bool true)], args := [d] }
  | _ => none }
def slotsNilRow : OpenClaim := { program := "ytpnkohjppbgiaaa", sum := "f6eccb77273554802224d5881cfcf920803f0e7a179103f43aaa0bb4df7bb2db", func := "purse/purselaw08.SlotsNil", spec := "slotsNil", unfollowed := true, recurses := true, apart := false }
def SlotsNilSaid : Prop := slotsNilRow.holds Try.pinned (OpenSpec.ofChange slotsNilSpec)

/-- ITS FALSE NEIGHBOUR: 'it returns false'. Refute it at one input. -/
def slotsNilWrong : ChangeSpec := { name := "slotsNil", fn := fun _ => fun
  | [d] => { results := [.lit (.bool false)], args := [d] }
  | _ => none }
def SlotsNilWrongFalsely : Prop := slotsNilRow.holds Try.pinned (OpenSpec.ofChange slotsNilWrong)

/- THE SECOND FORM. 'bulk': how many values and letters a reading holds, each counted each time it is reached (what is shared counts as often as it is met; a slice's spare places count too). A statement '..UptoSaid' is the law's where the arguments, and the package variables that the reading takes, are together of bulk at most 1048576: NARROWER than '..Said'. Prove '..Said' where nothing that the law and all that it calls make is longer than what came in: it says more and counts as full. Else prove '..UptoSaid'. A law counts once. -/
mutual
def uptoBulk {H : Type} : DataW H → Nat
  | .lit (.string bytes) => bytes.length + 1
  | .lit _ => 1
  | .nil => 1
  | .ptr d => uptoBulk d + 1
  | .slice elems spare => uptoBulkAll elems + uptoBulkAll spare + 1
  | .agg parts => uptoBulkAll parts + 1
  | .iface _ d => uptoBulk d + 1
  | .map entries => uptoBulkEntries entries + 1
  | .held _ => 1
def uptoBulkAll {H : Type} : List (DataW H) → Nat
  | [] => 0
  | d :: r => uptoBulk d + uptoBulkAll r
def uptoBulkEntries {H : Type} : List (Lit × DataW H) → Nat
  | [] => 0
  | x :: r => uptoBulkEntry x + uptoBulkEntries r
def uptoBulkEntry {H : Type} : Lit × DataW H → Nat
  | (.string bytes, d) => bytes.length + uptoBulk d + 1
  | (_, d) => uptoBulk d + 1
 end
def uptoSmall : (H : Type) → List (DataW H) → Bool := fun _ ds => decide (uptoBulkAll ds ≤ 1048576)
def OpenSpec.upto (s : _root_.Go.ChangeSpec) : _root_.Go.OpenSpec := { _root_.Go.OpenSpec.ofChange s with cond := some uptoSmall }

/-- 'purselaw08.SlotsWindow', WHERE WHAT IT READS IS OF BULK AT MOST 1048576: true; the input reads as it did. -/
def slotsWindowUptoRow : OpenClaim := { program := "ytpnkohjppbgiaaa", sum := "f6eccb77273554802224d5881cfcf920803f0e7a179103f43aaa0bb4df7bb2db", func := "purse/purselaw08.SlotsWindow", spec := "slotsWindow", unfollowed := true, recurses := true, apart := false, narrowed := true }
def SlotsWindowUptoSaid : Prop := slotsWindowUptoRow.holds Try.pinned (OpenSpec.upto slotsWindowSpec)

/-- 'purselaw08.SlotsKinds', WHERE WHAT IT READS IS OF BULK AT MOST 1048576: true; the input reads as it did. -/
def slotsKindsUptoRow : OpenClaim := { program := "ytpnkohjppbgiaaa", sum := "f6eccb77273554802224d5881cfcf920803f0e7a179103f43aaa0bb4df7bb2db", func := "purse/purselaw08.SlotsKinds", spec := "slotsKinds", unfollowed := true, recurses := true, apart := false, narrowed := true }
def SlotsKindsUptoSaid : Prop := slotsKindsUptoRow.holds Try.pinned (OpenSpec.upto slotsKindsSpec)

/-- 'purselaw08.SlotsLeft', WHERE WHAT IT READS IS OF BULK AT MOST 1048576: true; the input reads as it did. -/
def slotsLeftUptoRow : OpenClaim := { program := "ytpnkohjppbgiaaa", sum := "f6eccb77273554802224d5881cfcf920803f0e7a179103f43aaa0bb4df7bb2db", func := "purse/purselaw08.SlotsLeft", spec := "slotsLeft", unfollowed := true, recurses := true, apart := false, narrowed := true }
def SlotsLeftUptoSaid : Prop := slotsLeftUptoRow.holds Try.pinned (OpenSpec.upto slotsLeftSpec)

/-- 'purselaw08.SlotsPlays', WHERE WHAT IT READS IS OF BULK AT MOST 1048576: true; the input reads as it did. -/
def slotsPlaysUptoRow : OpenClaim := { program := "ytpnkohjppbgiaaa", sum := "f6eccb77273554802224d5881cfcf920803f0e7a179103f43aaa0bb4df7bb2db", func := "purse/purselaw08.SlotsPlays", spec := "slotsPlays", unfollowed := true, recurses := true, apart := false, narrowed := true }
def SlotsPlaysUptoSaid : Prop := slotsPlaysUptoRow.holds Try.pinned (OpenSpec.upto slotsPlaysSpec)

/-- 'purselaw08.SlotsParts', WHERE WHAT IT READS IS OF BULK AT MOST 1048576: true; the input reads as it did. -/
def slotsPartsUptoRow : OpenClaim := { program := "ytpnkohjppbgiaaa", sum := "f6eccb77273554802224d5881cfcf920803f0e7a179103f43aaa0bb4df7bb2db", func := "purse/purselaw08.SlotsParts", spec := "slotsParts", unfollowed := true, recurses := true, apart := false, narrowed := true }
def SlotsPartsUptoSaid : Prop := slotsPartsUptoRow.holds Try.pinned (OpenSpec.upto slotsPartsSpec)

/-- 'purselaw08.SlotsNil', WHERE WHAT IT READS IS OF BULK AT MOST 1048576: true; the input reads as it did. -/
def slotsNilUptoRow : OpenClaim := { program := "ytpnkohjppbgiaaa", sum := "f6eccb77273554802224d5881cfcf920803f0e7a179103f43aaa0bb4df7bb2db", func := "purse/purselaw08.SlotsNil", spec := "slotsNil", unfollowed := true, recurses := true, apart := false, narrowed := true }
def SlotsNilUptoSaid : Prop := slotsNilUptoRow.holds Try.pinned (OpenSpec.upto slotsNilSpec)

end Rows
end Go.Proofs.Ytpnkohjppbgiaaa
