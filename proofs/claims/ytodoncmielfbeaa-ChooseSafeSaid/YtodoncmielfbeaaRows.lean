/-
  No cell of these rows narrows 'for every input' (looked for: loops, veiled, ifaces, maps, wideKeys, modest, calm, conditions, laid).
  DERIVED. THE GIVEN ROWS OF THIS SEAT. 4 by the template 'for every input the law returns true; each argument reads behind the call as it read before'; 0 by the template 'total and deterministic' (their statements: YtodoncmielfbeaaTotals.lean).
  GIVEN WITH THE SEED: the statements are not yours to turn. If you find one false, say at which input.
  Laid BY PROGRAM, IN A SANDBOX (cutbox-rows.mjs): the forced cells as the released guide's own fill.sh prints them over the translation 028cf4565a162aaf… (all of the seat's roots in one cut). By AI agents, Wed Nov 11 2026. No macro, syntax, notation, axiom, sorry.
-/
import Derived.Test.YtodoncmielfbeaaChecked
import GoSem.Claim
import GoSem.ClaimJoined
import GoSem.ClaimMapViews
import Derived.JoinedTies
import Derived.KernelRfl
namespace Go.Proofs.Ytodoncmielfbeaa
/- THE CELL 'sum', in the pinned program and in every row, IS THE sha256 OF THE DUMP (.gsa) THAT YtodoncmielfbeaaProg.lean LOADS. Nothing in Lean hashes anything: it is a label: what it is worth is what the hold of that sum in a sandbox is worth. -/
noncomputable def Try.pinned : Pinned := { name := "ytodoncmielfbeaa", sum := "028cf4565a162aaf677ff4bfd8a7484a7c02f74fa0c6d5afdf1655c334fed396", checked := Try.checked }
namespace Rows
def none {H : Type} : Left H := { results := [], args := [] }

/-- 'purselaw11.ChoosePlays': WHATEVER THE INPUT: true; the input reads as it did. -/
def choosePlaysSpec : ChangeSpec := { name := "choosePlays", fn := fun _ => fun
  | [d1, d2, d3] => { results := [.lit (.bool true)], args := [d1, d2, d3] }
  | _ => none }
def choosePlaysRow : OpenClaim := { program := "ytodoncmielfbeaa", sum := "028cf4565a162aaf677ff4bfd8a7484a7c02f74fa0c6d5afdf1655c334fed396", func := "purse/purselaw11.ChoosePlays", spec := "choosePlays", unfollowed := true, recurses := true, apart := false }
def ChoosePlaysSaid : Prop := choosePlaysRow.holds Try.pinned (OpenSpec.ofChange choosePlaysSpec)

/-- ITS FALSE NEIGHBOUR: 'it returns false'. Refute it at one input. -/
def choosePlaysWrong : ChangeSpec := { name := "choosePlays", fn := fun _ => fun
  | [d1, d2, d3] => { results := [.lit (.bool false)], args := [d1, d2, d3] }
  | _ => none }
def ChoosePlaysWrongFalsely : Prop := choosePlaysRow.holds Try.pinned (OpenSpec.ofChange choosePlaysWrong)

/-- 'purselaw11.ChooseKeeps': WHATEVER THE INPUT: true; the input reads as it did. -/
def chooseKeepsSpec : ChangeSpec := { name := "chooseKeeps", fn := fun _ => fun
  | [d1, d2, d3] => { results := [.lit (.bool true)], args := [d1, d2, d3] }
  | _ => none }
def chooseKeepsRow : OpenClaim := { program := "ytodoncmielfbeaa", sum := "028cf4565a162aaf677ff4bfd8a7484a7c02f74fa0c6d5afdf1655c334fed396", func := "purse/purselaw11.ChooseKeeps", spec := "chooseKeeps", unfollowed := true, recurses := true, apart := false }
def ChooseKeepsSaid : Prop := chooseKeepsRow.holds Try.pinned (OpenSpec.ofChange chooseKeepsSpec)

/-- ITS FALSE NEIGHBOUR: 'it returns false'. Refute it at one input. -/
def chooseKeepsWrong : ChangeSpec := { name := "chooseKeeps", fn := fun _ => fun
  | [d1, d2, d3] => { results := [.lit (.bool false)], args := [d1, d2, d3] }
  | _ => none }
def ChooseKeepsWrongFalsely : Prop := chooseKeepsRow.holds Try.pinned (OpenSpec.ofChange chooseKeepsWrong)

/-- 'purselaw11.ChooseOrder': WHATEVER THE INPUT: true; the input reads as it did. -/
def chooseOrderSpec : ChangeSpec := { name := "chooseOrder", fn := fun _ => fun
  | [d1, d2, d3] => { results := [.lit (.bool true)], args := [d1, d2, d3] }
  | _ => none }
def chooseOrderRow : OpenClaim := { program := "ytodoncmielfbeaa", sum := "028cf4565a162aaf677ff4bfd8a7484a7c02f74fa0c6d5afdf1655c334fed396", func := "purse/purselaw11.ChooseOrder", spec := "chooseOrder", unfollowed := true, recurses := true, apart := false }
def ChooseOrderSaid : Prop := chooseOrderRow.holds Try.pinned (OpenSpec.ofChange chooseOrderSpec)

/-- ITS FALSE NEIGHBOUR: 'it returns false'. Refute it at one input. -/
def chooseOrderWrong : ChangeSpec := { name := "chooseOrder", fn := fun _ => fun
  | [d1, d2, d3] => { results := [.lit (.bool false)], args := [d1, d2, d3] }
  | _ => none }
def ChooseOrderWrongFalsely : Prop := chooseOrderRow.holds Try.pinned (OpenSpec.ofChange chooseOrderWrong)

/-- 'purselaw11.ChooseSafe': WHATEVER THE INPUT: true; the input reads as it did. -/
def chooseSafeSpec : ChangeSpec := { name := "chooseSafe", fn := fun _ => fun
  | [d1, d2] => { results := [.lit (.bool true)], args := [d1, d2] }
  | _ => none }
def chooseSafeRow : OpenClaim := { program := "ytodoncmielfbeaa", sum := "028cf4565a162aaf677ff4bfd8a7484a7c02f74fa0c6d5afdf1655c334fed396", func := "purse/purselaw11.ChooseSafe", spec := "chooseSafe", unfollowed := true, recurses := true, apart := false }
def ChooseSafeSaid : Prop := chooseSafeRow.holds Try.pinned (OpenSpec.ofChange chooseSafeSpec)

/-- ITS FALSE NEIGHBOUR: 'it returns false'. Refute it at one input. -/
def chooseSafeWrong : ChangeSpec := { name := "chooseSafe", fn := fun _ => fun
  | [d1, d2] => { results := [.lit (.bool false)], args := [d1, d2] }
  | _ => none }
def ChooseSafeWrongFalsely : Prop := chooseSafeRow.holds Try.pinned (OpenSpec.ofChange chooseSafeWrong)

/- THE SECOND FORM. 'bulk': how many values and letters a reading holds, each counted each time it is reached (what is shared counts as often as it is met; a slice's spare places count too). A statement '..UptoSaid' is the law's where the arguments, and the package variables that the reading takes, are together of bulk at most 1048576: NARROWER than '..Said'. Prove '..Said' where nothing that the law and all that it calls make is longer than what came in: it says more and counts as full. Else prove '..UptoSaid'. A law counts once. -/
mutual
def uptoBulk {H : Type} : DataW H → Nat
  | .lit (.string bytes) => bytes.length + 1
  | .lit _ => 1
  | .nil => 1
  | .ptr d => uptoBulk d + 1
  | .slice elems spare => uptoBulkAll elems + uptoBulkAll spare + 1
  | .agg parts => uptoBulkAll parts + 1
  | .iface _ d => uptoBulk d + 1
  | .map entries => uptoBulkEntries entries + 1
  | .held _ => 1
def uptoBulkAll {H : Type} : List (DataW H) → Nat
  | [] => 0
  | d :: r => uptoBulk d + uptoBulkAll r
def uptoBulkEntries {H : Type} : List (Lit × DataW H) → Nat
  | [] => 0
  | x :: r => uptoBulkEntry x + uptoBulkEntries r
def uptoBulkEntry {H : Type} : Lit × DataW H → Nat
  | (.string bytes, d) => bytes.length + uptoBulk d + 1
  | (_, d) => uptoBulk d + 1
 end
def uptoSmall : (H : Type) → List (DataW H) → Bool := fun _ ds => decide (uptoBulkAll ds ≤ 1048576)
def OpenSpec.upto (s : _root_.Go.ChangeSpec) : _root_.Go.OpenSpec := { _root_.Go.OpenSpec.ofChange s with cond := some uptoSmall }

/-- 'purselaw11.ChoosePlays', WHERE WHAT IT READS IS OF BULK AT MOST 1048576: true; the input reads as it did. -/
def choosePlaysUptoRow : OpenClaim := { program := "ytodoncmielfbeaa", sum := "028cf4565a162aaf677ff4bfd8a7484a7c02f74fa0c6d5afdf1655c334fed396", func := "purse/purselaw11.ChoosePlays", spec := "choosePlays", unfollowed := true, recurses := true, apart := false, narrowed := true }
def ChoosePlaysUptoSaid : Prop := choosePlaysUptoRow.holds Try.pinned (OpenSpec.upto choosePlaysSpec)

/-- 'purselaw11.ChooseKeeps', WHERE WHAT IT READS IS OF BULK AT MOST 1048576: true; the input reads as it did. -/
def chooseKeepsUptoRow : OpenClaim := { program := "ytodoncmielfbeaa", sum := "028cf4565a162aaf677ff4bfd8a7484a7c02f74fa0c6d5afdf1655c334fed396", func := "purse/purselaw11.ChooseKeeps", spec := "chooseKeeps", unfollowed := true, recurses := true, apart := false, narrowed := true }
def ChooseKeepsUptoSaid : Prop := chooseKeepsUptoRow.holds Try.pinned (OpenSpec.upto chooseKeepsSpec)

/-- 'purselaw11.ChooseOrder', WHERE WHAT IT READS IS OF BULK AT MOST 1048576: true; the input reads as it did. -/
def chooseOrderUptoRow : OpenClaim := { program := "ytodoncmielfbeaa", sum := "028cf4565a162aaf677ff4bfd8a7484a7c02f74fa0c6d5afdf1655c334fed396", func := "purse/purselaw11.ChooseOrder", spec := "chooseOrder", unfollowed := true, recurses := true, apart := false, narrowed := true }
def ChooseOrderUptoSaid : Prop := chooseOrderUptoRow.holds Try.pinned (OpenSpec.upto chooseOrderSpec)

/-- 'purselaw11.ChooseSafe', WHERE WHAT IT READS IS OF BULK AT MOST 1048576: true; the input reads as it did. -/
def chooseSafeUptoRow : OpenClaim := { program := "ytodoncmielfbeaa", sum := "028cf4565a162aaf677ff4bfd8a7484a7c02f74fa0c6d5afdf1655c334fed396", func := "purse/purselaw11.ChooseSafe", spec := "chooseSafe", unfollowed := true, recurses := true, apart := false, narrowed := true }
def ChooseSafeUptoSaid : Prop := chooseSafeUptoRow.holds Try.pinned (OpenSpec.upto chooseSafeSpec)

end Rows
end Go.Proofs.Ytodoncmielfbeaa
