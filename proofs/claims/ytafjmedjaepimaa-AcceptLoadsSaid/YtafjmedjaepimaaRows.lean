/-
  No cell of these rows narrows 'for every input' (looked for: loops, veiled, ifaces, maps, wideKeys, modest, calm, conditions, laid).
  DERIVED. THE GIVEN ROWS OF THIS SEAT. 7 by the template 'for every input the law returns true; each argument reads behind the call as it read before'; 0 by the template 'total and deterministic' (their statements: YtafjmedjaepimaaTotals.lean).
  GIVEN WITH THE SEED: the statements are not yours to turn. If you find one false, say at which input.
  Laid BY PROGRAM, IN A SANDBOX (cutbox-rows.mjs): the forced cells as the released guide's own fill.sh prints them over the translation 9dda76f3b1d567ac… (all of the seat's roots in one cut). By AI agents, Wed Nov 11 2026. No macro, syntax, notation, axiom, sorry.
-/
import Derived.Test.YtafjmedjaepimaaChecked
import GoSem.Claim
import GoSem.ClaimJoined
import GoSem.ClaimMapViews
import Derived.JoinedTies
import Derived.KernelRfl
namespace Go.Proofs.Ytafjmedjaepimaa
/- THE CELL 'sum', in the pinned program and in every row, IS THE sha256 OF THE DUMP (.gsa) THAT YtafjmedjaepimaaProg.lean LOADS. Nothing in Lean hashes anything: it is a label: what it is worth is what the hold of that sum in a sandbox is worth. -/
noncomputable def Try.pinned : Pinned := { name := "ytafjmedjaepimaa", sum := "9dda76f3b1d567ac9246296ddec4711dcdf090557ce3c6f799f6b95f6df859a3", checked := Try.checked }
namespace Rows
def none {H : Type} : Left H := { results := [], args := [] }

/-- 'purselaw10.AcceptLast': WHATEVER THE INPUT: true; the input reads as it did. -/
def acceptLastSpec : ChangeSpec := { name := "acceptLast", fn := fun _ => fun
  | [d] => { results := [.lit (.bool true)], args := [d] }
  | _ => none }
def acceptLastRow : OpenClaim := { program := "ytafjmedjaepimaa", sum := "9dda76f3b1d567ac9246296ddec4711dcdf090557ce3c6f799f6b95f6df859a3", func := "purse/purselaw10.AcceptLast", spec := "acceptLast", unfollowed := true, recurses := true, apart := false }
def AcceptLastSaid : Prop := acceptLastRow.holds Try.pinned (OpenSpec.ofChange acceptLastSpec)

/-- ITS FALSE NEIGHBOUR: 'it returns false'. Refute it at one input. -/
def acceptLastWrong : ChangeSpec := { name := "acceptLast", fn := fun _ => fun
  | [d] => { results := [.lit (.bool false)], args := [d] }
  | _ => none }
def AcceptLastWrongFalsely : Prop := acceptLastRow.holds Try.pinned (OpenSpec.ofChange acceptLastWrong)

/-- 'purselaw10.AcceptPlays': WHATEVER THE INPUT: true; the input reads as it did. -/
def acceptPlaysSpec : ChangeSpec := { name := "acceptPlays", fn := fun _ => fun
  | [d] => { results := [.lit (.bool true)], args := [d] }
  | _ => none }
def acceptPlaysRow : OpenClaim := { program := "ytafjmedjaepimaa", sum := "9dda76f3b1d567ac9246296ddec4711dcdf090557ce3c6f799f6b95f6df859a3", func := "purse/purselaw10.AcceptPlays", spec := "acceptPlays", unfollowed := true, recurses := true, apart := false }
def AcceptPlaysSaid : Prop := acceptPlaysRow.holds Try.pinned (OpenSpec.ofChange acceptPlaysSpec)

/-- ITS FALSE NEIGHBOUR: 'it returns false'. Refute it at one input. -/
def acceptPlaysWrong : ChangeSpec := { name := "acceptPlays", fn := fun _ => fun
  | [d] => { results := [.lit (.bool false)], args := [d] }
  | _ => none }
def AcceptPlaysWrongFalsely : Prop := acceptPlaysRow.holds Try.pinned (OpenSpec.ofChange acceptPlaysWrong)

/-- 'purselaw10.AcceptKeeps': WHATEVER THE INPUT: true; the input reads as it did. -/
def acceptKeepsSpec : ChangeSpec := { name := "acceptKeeps", fn := fun _ => fun
  | [d1, d2] => { results := [.lit (.bool true)], args := [d1, d2] }
  | _ => none }
def acceptKeepsRow : OpenClaim := { program := "ytafjmedjaepimaa", sum := "9dda76f3b1d567ac9246296ddec4711dcdf090557ce3c6f799f6b95f6df859a3", func := "purse/purselaw10.AcceptKeeps", spec := "acceptKeeps", unfollowed := true, recurses := true, apart := false }
def AcceptKeepsSaid : Prop := acceptKeepsRow.holds Try.pinned (OpenSpec.ofChange acceptKeepsSpec)

/-- ITS FALSE NEIGHBOUR: 'it returns false'. Refute it at one input. -/
def acceptKeepsWrong : ChangeSpec := { name := "acceptKeeps", fn := fun _ => fun
  | [d1, d2] => { results := [.lit (.bool false)], args := [d1, d2] }
  | _ => none }
def AcceptKeepsWrongFalsely : Prop := acceptKeepsRow.holds Try.pinned (OpenSpec.ofChange acceptKeepsWrong)

/-- 'purselaw10.AcceptPromise': WHATEVER THE INPUT: true; the input reads as it did. -/
def acceptPromiseSpec : ChangeSpec := { name := "acceptPromise", fn := fun _ => fun
  | [d1, d2, d3, d4, d5, d6] => { results := [.lit (.bool true)], args := [d1, d2, d3, d4, d5, d6] }
  | _ => none }
def acceptPromiseRow : OpenClaim := { program := "ytafjmedjaepimaa", sum := "9dda76f3b1d567ac9246296ddec4711dcdf090557ce3c6f799f6b95f6df859a3", func := "purse/purselaw10.AcceptPromise", spec := "acceptPromise", unfollowed := true, recurses := true, apart := false }
def AcceptPromiseSaid : Prop := acceptPromiseRow.holds Try.pinned (OpenSpec.ofChange acceptPromiseSpec)

/-- ITS FALSE NEIGHBOUR: 'it returns false'. Refute it at one input. -/
def acceptPromiseWrong : ChangeSpec := { name := "acceptPromise", fn := fun _ => fun
  | [d1, d2, d3, d4, d5, d6] => { results := [.lit (.bool false)], args := [d1, d2, d3, d4, d5, d6] }
  | _ => none }
def AcceptPromiseWrongFalsely : Prop := acceptPromiseRow.holds Try.pinned (OpenSpec.ofChange acceptPromiseWrong)

/-- 'purselaw10.AcceptNil': WHATEVER THE INPUT: true; the input reads as it did. -/
def acceptNilSpec : ChangeSpec := { name := "acceptNil", fn := fun _ => fun
  | [d1, d2] => { results := [.lit (.bool true)], args := [d1, d2] }
  | _ => none }
def acceptNilRow : OpenClaim := { program := "ytafjmedjaepimaa", sum := "9dda76f3b1d567ac9246296ddec4711dcdf090557ce3c6f799f6b95f6df859a3", func := "purse/purselaw10.AcceptNil", spec := "acceptNil", unfollowed := true, recurses := true, apart := false }
def AcceptNilSaid : Prop := acceptNilRow.holds Try.pinned (OpenSpec.ofChange acceptNilSpec)

/-- ITS FALSE NEIGHBOUR: 'it returns false'. Refute it at one input. -/
def acceptNilWrong : ChangeSpec := { name := "acceptNil", fn := fun _ => fun
  | [d1, d2] => { results := [.lit (.bool false)], args := [d1, d2] }
  | _ => none }
def AcceptNilWrongFalsely : Prop := acceptNilRow.holds Try.pinned (OpenSpec.ofChange acceptNilWrong)

/-- 'purselaw10.AcceptLoads': WHATEVER THE INPUT: true; the input reads as it did. -/
def acceptLoadsSpec : ChangeSpec := { name := "acceptLoads", fn := fun _ => fun
  | [d1, d2, d3, d4] => { results := [.lit (.bool true)], args := [d1, d2, d3, d4] }
  | _ => none }
def acceptLoadsRow : OpenClaim := { program := "ytafjmedjaepimaa", sum := "9dda76f3b1d567ac9246296ddec4711dcdf090557ce3c6f799f6b95f6df859a3", func := "purse/purselaw10.AcceptLoads", spec := "acceptLoads", unfollowed := true, recurses := true, apart := false }
def AcceptLoadsSaid : Prop := acceptLoadsRow.holds Try.pinned (OpenSpec.ofChange acceptLoadsSpec)

/-- ITS FALSE NEIGHBOUR: 'it returns false'. Refute it at one input. -/
def acceptLoadsWrong : ChangeSpec := { name := "acceptLoads", fn := fun _ => fun
  | [d1, d2, d3, d4] => { results := [.lit (.bool false)], args := [d1, d2, d3, d4] }
  | _ => none }
def AcceptLoadsWrongFalsely : Prop := acceptLoadsRow.holds Try.pinned (OpenSpec.ofChange acceptLoadsWrong)

/-- 'purselaw10.AcceptForks': WHATEVER THE INPUT: true; the input reads as it did. -/
def acceptForksSpec : ChangeSpec := { name := "acceptForks", fn := fun _ => fun
  | [d1, d2] => { results := [.lit (.bool true)], args := [d1, d2] }
  | _ => none }
def acceptForksRow : OpenClaim := { program := "ytafjmedjaepimaa", sum := "9dda76f3b1d567ac9246296ddec4711dcdf090557ce3c6f799f6b95f6df859a3", func := "purse/purselaw10.AcceptForks", spec := "acceptForks", unfollowed := true, recurses := true, apart := false }
def AcceptForksSaid : Prop := acceptForksRow.holds Try.pinned (OpenSpec.ofChange acceptForksSpec)

/-- ITS FALSE NEIGHBOUR: 'it returns false'. Refute it at one input. -/
def acceptForksWrong : ChangeSpec := { name := "acceptForks", fn := fun _ => fun
  | [d1, d2] => { results := [.lit (.bool false)], args := [d1, d2] }
  | _ => none }
def AcceptForksWrongFalsely : Prop := acceptForksRow.holds Try.pinned (OpenSpec.ofChange acceptForksWrong)

/- THE SECOND FORM. 'bulk': how many values and letters a reading holds, each counted each time it is reached (what is shared counts as often as it is met; a slice's spare places count too). A statement '..UptoSaid' is the law's where the arguments, and the package variables that the reading takes, are together of bulk at most 1048576: NARROWER than '..Said'. Prove '..Said' where nothing that the law and all that it calls make is longer than what came in: it says more and counts as full. Else prove '..UptoSaid'. A law counts once. -/
mutual
def uptoBulk {H : Type} : DataW H → Nat
  | .lit (.string bytes) => bytes.length + 1
  | .lit _ => 1
  | .nil => 1
  | .ptr d => uptoBulk d + 1
  | .slice elems spare => uptoBulkAll elems + uptoBulkAll spare + 1
  | .agg parts => uptoBulkAll parts + 1
  | .iface _ d => uptoBulk d + 1
  | .map entries => uptoBulkEntries entries + 1
  | .held _ => 1
def uptoBulkAll {H : Type} : List (DataW H) → Nat
  | [] => 0
  | d :: r => uptoBulk d + uptoBulkAll r
def uptoBulkEntries {H : Type} : List (Lit × DataW H) → Nat
  | [] => 0
  | x :: r => uptoBulkEntry x + uptoBulkEntries r
def uptoBulkEntry {H : Type} : Lit × DataW H → Nat
  | (.string bytes, d) => bytes.length + uptoBulk d + 1
  | (_, d) => uptoBulk d + 1
 end
def uptoSmall : (H : Type) → List (DataW H) → Bool := fun _ ds => decide (uptoBulkAll ds ≤ 1048576)
def OpenSpec.upto (s : _root_.Go.ChangeSpec) : _root_.Go.OpenSpec := { _root_.Go.OpenSpec.ofChange s with cond := some uptoSmall }

/-- 'purselaw10.AcceptLast', WHERE WHAT IT READS IS OF BULK AT MOST 1048576: true; the input reads as it did. -/
def acceptLastUptoRow : OpenClaim := { program := "ytafjmedjaepimaa", sum := "9dda76f3b1d567ac9246296ddec4711dcdf090557ce3c6f799f6b95f6df859a3", func := "purse/purselaw10.AcceptLast", spec := "acceptLast", unfollowed := true, recurses := true, apart := false, narrowed := true }
def AcceptLastUptoSaid : Prop := acceptLastUptoRow.holds Try.pinned (OpenSpec.upto acceptLastSpec)

/-- 'purselaw10.AcceptPlays', WHERE WHAT IT READS IS OF BULK AT MOST 1048576: true; the input reads as it did. -/
def acceptPlaysUptoRow : OpenClaim := { program := "ytafjmedjaepimaa", sum := "9dda76f3b1d567ac9246296ddec4711dcdf090557ce3c6f799f6b95f6df859a3", func := "purse/purselaw10.AcceptPlays", spec := "acceptPlays", unfollowed := true, recurses := true, apart := false, narrowed := true }
def AcceptPlaysUptoSaid : Prop := acceptPlaysUptoRow.holds Try.pinned (OpenSpec.upto acceptPlaysSpec)

/-- 'purselaw10.AcceptKeeps', WHERE WHAT IT READS IS OF BULK AT MOST 1048576: true; the input reads as it did. -/
def acceptKeepsUptoRow : OpenClaim := { program := "ytafjmedjaepimaa", sum := "9dda76f3b1d567ac9246296ddec4711dcdf090557ce3c6f799f6b95f6df859a3", func := "purse/purselaw10.AcceptKeeps", spec := "acceptKeeps", unfollowed := true, recurses := true, apart := false, narrowed := true }
def AcceptKeepsUptoSaid : Prop := acceptKeepsUptoRow.holds Try.pinned (OpenSpec.upto acceptKeepsSpec)

/-- 'purselaw10.AcceptPromise', WHERE WHAT IT READS IS OF BULK AT MOST 1048576: true; the input reads as it did. -/
def acceptPromiseUptoRow : OpenClaim := { program := "ytafjmedjaepimaa", sum := "9dda76f3b1d567ac9246296ddec4711dcdf090557ce3c6f799f6b95f6df859a3", func := "purse/purselaw10.AcceptPromise", spec := "acceptPromise", unfollowed := true, recurses := true, apart := false, narrowed := true }
def AcceptPromiseUptoSaid : Prop := acceptPromiseUptoRow.holds Try.pinned (OpenSpec.upto acceptPromiseSpec)

/-- 'purselaw10.AcceptNil', WHERE WHAT IT READS IS OF BULK AT MOST 1048576: true; the input reads as it did. -/
def acceptNilUptoRow : OpenClaim := { program := "ytafjmedjaepimaa", sum := "9dda76f3b1d567ac9246296ddec4711dcdf090557ce3c6f799f6b95f6df859a3", func := "purse/purselaw10.AcceptNil", spec := "acceptNil", unfollowed := true, recurses := true, apart := false, narrowed := true }
def AcceptNilUptoSaid : Prop := acceptNilUptoRow.holds Try.pinned (OpenSpec.upto acceptNilSpec)

/-- 'purselaw10.AcceptLoads', WHERE WHAT IT READS IS OF BULK AT MOST 1048576: true; the input reads as it did. -/
def acceptLoadsUptoRow : OpenClaim := { program := "ytafjmedjaepimaa", sum := "9dda76f3b1d567ac9246296ddec4711dcdf090557ce3c6f799f6b95f6df859a3", func := "purse/purselaw10.AcceptLoads", spec := "acceptLoads", unfollowed := true, recurses := true, apart := false, narrowed := true }
def AcceptLoadsUptoSaid : Prop := acceptLoadsUptoRow.holds Try.pinned (OpenSpec.upto acceptLoadsSpec)

/-- 'purselaw10.AcceptForks', WHERE WHAT IT READS IS OF BULK AT MOST 1048576: true; the input reads as it did. -/
def acceptForksUptoRow : OpenClaim := { program := "ytafjmedjaepimaa", sum := "9dda76f3b1d567ac9246296ddec4711dcdf090557ce3c6f799f6b95f6df859a3", func := "purse/purselaw10.AcceptForks", spec := "acceptForks", unfollowed := true, recurses := true, apart := false, narrowed := true }
def AcceptForksUptoSaid : Prop := acceptForksUptoRow.holds Try.pinned (OpenSpec.upto acceptForksSpec)

end Rows
end Go.Proofs.Ytafjmedjaepimaa
