/-
  No cell of these rows narrows 'for every input' (looked for: loops, veiled, ifaces, maps, wideKeys, modest, calm, conditions, laid).
  DERIVED. THE GIVEN ROWS OF THIS SEAT. 6 by the template 'for every input the law returns true; each argument reads behind the call as it read before'; 0 by the template 'total and deterministic' (their statements: YtjhegigcjchegaaTotals.lean).
  GIVEN WITH THE SEED: the statements are not yours to turn. If you find one false, say at which input.
  Laid BY PROGRAM, IN A SANDBOX (cutbox-rows.mjs): the forced cells as the released guide's own fill.sh prints them over the translation 7551c4a6f8d3f11f… (all of the seat's roots in one cut). By AI agents, Wed Nov 11 2026. No macro, syntax, notation, axiom, sorry.
-/
import Derived.Test.YtjhegigcjchegaaChecked
import GoSem.Claim
import GoSem.ClaimJoined
import GoSem.ClaimMapViews
import Derived.JoinedTies
import Derived.KernelRfl
namespace Go.Proofs.Ytjhegigcjchegaa
/- THE CELL 'sum', in the pinned program and in every row, IS THE sha256 OF THE DUMP (.gsa) THAT YtjhegigcjchegaaProg.lean LOADS. Nothing in Lean hashes anything: it is a label: what it is worth is what the hold of that sum in a sandbox is worth. -/
noncomputable def Try.pinned : Pinned := { name := "ytjhegigcjchegaa", sum := "7551c4a6f8d3f11f6d54ee0fd1385be2011cb34da0388872cdd6772a5e10a8a1", checked := Try.checked }
namespace Rows
def none {H : Type} : Left H := { results := [], args := [] }

/-- 'purselaw09.BallotOrder': WHATEVER THE INPUT: true; the input reads as it did. -/
def ballotOrderSpec : ChangeSpec := { name := "ballotOrder", fn := fun _ => fun
  | [d1, d2, d3] => { results := [.lit (.bool true)], args := [d1, d2, d3] }
  | _ => none }
def ballotOrderRow : OpenClaim := { program := "ytjhegigcjchegaa", sum := "7551c4a6f8d3f11f6d54ee0fd1385be2011cb34da0388872cdd6772a5e10a8a1", func := "purse/purselaw09.BallotOrder", spec := "ballotOrder", apart := false }
def BallotOrderSaid : Prop := ballotOrderRow.holds Try.pinned (OpenSpec.ofChange ballotOrderSpec)

/-- ITS FALSE NEIGHBOUR: 'it returns false'. Refute it at one input. -/
def ballotOrderWrong : ChangeSpec := { name := "ballotOrder", fn := fun _ => fun
  | [d1, d2, d3] => { results := [.lit (.bool false)], args := [d1, d2, d3] }
  | _ => none }
def BallotOrderWrongFalsely : Prop := ballotOrderRow.holds Try.pinned (OpenSpec.ofChange ballotOrderWrong)

/-- 'purselaw09.BallotNext': WHATEVER THE INPUT: true; the input reads as it did. -/
def ballotNextSpec : ChangeSpec := { name := "ballotNext", fn := fun _ => fun
  | [d1, d2, d3] => { results := [.lit (.bool true)], args := [d1, d2, d3] }
  | _ => none }
def ballotNextRow : OpenClaim := { program := "ytjhegigcjchegaa", sum := "7551c4a6f8d3f11f6d54ee0fd1385be2011cb34da0388872cdd6772a5e10a8a1", func := "purse/purselaw09.BallotNext", spec := "ballotNext", apart := false }
def BallotNextSaid : Prop := ballotNextRow.holds Try.pinned (OpenSpec.ofChange ballotNextSpec)

/-- ITS FALSE NEIGHBOUR: 'it returns false'. Refute it at one input. -/
def ballotNextWrong : ChangeSpec := { name := "ballotNext", fn := fun _ => fun
  | [d1, d2, d3] => { results := [.lit (.bool false)], args := [d1, d2, d3] }
  | _ => none }
def BallotNextWrongFalsely : Prop := ballotNextRow.holds Try.pinned (OpenSpec.ofChange ballotNextWrong)

/-- 'purselaw09.BallotBest': WHATEVER THE INPUT: true; the input reads as it did. -/
def ballotBestSpec : ChangeSpec := { name := "ballotBest", fn := fun _ => fun
  | [d] => { results := [.lit (.bool true)], args := [d] }
  | _ => none }
def ballotBestRow : OpenClaim := { program := "ytjhegigcjchegaa", sum := "7551c4a6f8d3f11f6d54ee0fd1385be2011cb34da0388872cdd6772a5e10a8a1", func := "purse/purselaw09.BallotBest", spec := "ballotBest", unfollowed := true, recurses := true, apart := false }
def BallotBestSaid : Prop := ballotBestRow.holds Try.pinned (OpenSpec.ofChange ballotBestSpec)

/-- ITS FALSE NEIGHBOUR: 'it returns false'. Refute it at one input. -/
def ballotBestWrong : ChangeSpec := { name := "ballotBest", fn := fun _ => fun
  | [d] => { results := [.lit (.bool false)], args := [d] }
  | _ => none }
def BallotBestWrongFalsely : Prop := ballotBestRow.holds Try.pinned (OpenSpec.ofChange ballotBestWrong)

/-- 'purselaw09.BallotCounts': WHATEVER THE INPUT: true; the input reads as it did. -/
def ballotCountsSpec : ChangeSpec := { name := "ballotCounts", fn := fun _ => fun
  | [d1, d2] => { results := [.lit (.bool true)], args := [d1, d2] }
  | _ => none }
def ballotCountsRow : OpenClaim := { program := "ytjhegigcjchegaa", sum := "7551c4a6f8d3f11f6d54ee0fd1385be2011cb34da0388872cdd6772a5e10a8a1", func := "purse/purselaw09.BallotCounts", spec := "ballotCounts", apart := false }
def BallotCountsSaid : Prop := ballotCountsRow.holds Try.pinned (OpenSpec.ofChange ballotCountsSpec)

/-- ITS FALSE NEIGHBOUR: 'it returns false'. Refute it at one input. -/
def ballotCountsWrong : ChangeSpec := { name := "ballotCounts", fn := fun _ => fun
  | [d1, d2] => { results := [.lit (.bool false)], args := [d1, d2] }
  | _ => none }
def BallotCountsWrongFalsely : Prop := ballotCountsRow.holds Try.pinned (OpenSpec.ofChange ballotCountsWrong)

/-- 'purselaw09.BallotMeets': WHATEVER THE INPUT: true; the input reads as it did. -/
def ballotMeetsSpec : ChangeSpec := { name := "ballotMeets", fn := fun _ => fun
  | [d1, d2, d3] => { results := [.lit (.bool true)], args := [d1, d2, d3] }
  | _ => none }
def ballotMeetsRow : OpenClaim := { program := "ytjhegigcjchegaa", sum := "7551c4a6f8d3f11f6d54ee0fd1385be2011cb34da0388872cdd6772a5e10a8a1", func := "purse/purselaw09.BallotMeets", spec := "ballotMeets", apart := false }
def BallotMeetsSaid : Prop := ballotMeetsRow.holds Try.pinned (OpenSpec.ofChange ballotMeetsSpec)

/-- ITS FALSE NEIGHBOUR: 'it returns false'. Refute it at one input. -/
def ballotMeetsWrong : ChangeSpec := { name := "ballotMeets", fn := fun _ => fun
  | [d1, d2, d3] => { results := [.lit (.bool false)], args := [d1, d2, d3] }
  | _ => none }
def BallotMeetsWrongFalsely : Prop := ballotMeetsRow.holds Try.pinned (OpenSpec.ofChange ballotMeetsWrong)

/-- 'purselaw09.BallotPlays': WHATEVER THE INPUT: true; the input reads as it did. -/
def ballotPlaysSpec : ChangeSpec := { name := "ballotPlays", fn := fun _ => fun
  | [d1, d2, d3, d4] => { results := [.lit (.bool true)], args := [d1, d2, d3, d4] }
  | _ => none }
def ballotPlaysRow : OpenClaim := { program := "ytjhegigcjchegaa", sum := "7551c4a6f8d3f11f6d54ee0fd1385be2011cb34da0388872cdd6772a5e10a8a1", func := "purse/purselaw09.BallotPlays", spec := "ballotPlays", unfollowed := true, recurses := true, apart := false }
def BallotPlaysSaid : Prop := ballotPlaysRow.holds Try.pinned (OpenSpec.ofChange ballotPlaysSpec)

/-- ITS FALSE NEIGHBOUR: 'it returns false'. Refute it at one input. -/
def ballotPlaysWrong : ChangeSpec := { name := "ballotPlays", fn := fun _ => fun
  | [d1, d2, d3, d4] => { results := [.lit (.bool false)], args := [d1, d2, d3, d4] }
  | _ => none }
def BallotPlaysWrongFalsely : Prop := ballotPlaysRow.holds Try.pinned (OpenSpec.ofChange ballotPlaysWrong)

/- THE SECOND FORM. 'bulk': how many values and letters a reading holds, each counted each time it is reached (what is shared counts as often as it is met; a slice's spare places count too). A statement '..UptoSaid' is the law's where the arguments, and the package variables that the reading takes, are together of bulk at most 1048576: NARROWER than '..Said'. Prove '..Said' where nothing that the law and all that it calls make is longer than what came in: it says more and counts as full. Else prove '..UptoSaid'. A law counts once. -/
mutual
def uptoBulk {H : Type} : DataW H → Nat
  | .lit (.string bytes) => bytes.length + 1
  | .lit _ => 1
  | .nil => 1
  | .ptr d => uptoBulk d + 1
  | .slice elems spare => uptoBulkAll elems + uptoBulkAll spare + 1
  | .agg parts => uptoBulkAll parts + 1
  | .iface _ d => uptoBulk d + 1
  | .map entries => uptoBulkEntries entries + 1
  | .held _ => 1
def uptoBulkAll {H : Type} : List (DataW H) → Nat
  | [] => 0
  | d :: r => uptoBulk d + uptoBulkAll r
def uptoBulkEntries {H : Type} : List (Lit × DataW H) → Nat
  | [] => 0
  | x :: r => uptoBulkEntry x + uptoBulkEntries r
def uptoBulkEntry {H : Type} : Lit × DataW H → Nat
  | (.string bytes, d) => bytes.length + uptoBulk d + 1
  | (_, d) => uptoBulk d + 1
 end
def uptoSmall : (H : Type) → List (DataW H) → Bool := fun _ ds => decide (uptoBulkAll ds ≤ 1048576)
def OpenSpec.upto (s : _root_.Go.ChangeSpec) : _root_.Go.OpenSpec := { _root_.Go.OpenSpec.ofChange s with cond := some uptoSmall }

/-- 'purselaw09.BallotOrder', WHERE WHAT IT READS IS OF BULK AT MOST 1048576: true; the input reads as it did. -/
def ballotOrderUptoRow : OpenClaim := { program := "ytjhegigcjchegaa", sum := "7551c4a6f8d3f11f6d54ee0fd1385be2011cb34da0388872cdd6772a5e10a8a1", func := "purse/purselaw09.BallotOrder", spec := "ballotOrder", apart := false, narrowed := true }
def BallotOrderUptoSaid : Prop := ballotOrderUptoRow.holds Try.pinned (OpenSpec.upto ballotOrderSpec)

/-- 'purselaw09.BallotNext', WHERE WHAT IT READS IS OF BULK AT MOST 1048576: true; the input reads as it did. -/
def ballotNextUptoRow : OpenClaim := { program := "ytjhegigcjchegaa", sum := "7551c4a6f8d3f11f6d54ee0fd1385be2011cb34da0388872cdd6772a5e10a8a1", func := "purse/purselaw09.BallotNext", spec := "ballotNext", apart := false, narrowed := true }
def BallotNextUptoSaid : Prop := ballotNextUptoRow.holds Try.pinned (OpenSpec.upto ballotNextSpec)

/-- 'purselaw09.BallotBest', WHERE WHAT IT READS IS OF BULK AT MOST 1048576: true; the input reads as it did. -/
def ballotBestUptoRow : OpenClaim := { program := "ytjhegigcjchegaa", sum := "7551c4a6f8d3f11f6d54ee0fd1385be2011cb34da0388872cdd6772a5e10a8a1", func := "purse/purselaw09.BallotBest", spec := "ballotBest", unfollowed := true, recurses := true, apart := false, narrowed := true }
def BallotBestUptoSaid : Prop := ballotBestUptoRow.holds Try.pinned (OpenSpec.upto ballotBestSpec)

/-- 'purselaw09.BallotCounts', WHERE WHAT IT READS IS OF BULK AT MOST 1048576: true; the input reads as it did. -/
def ballotCountsUptoRow : OpenClaim := { program := "ytjhegigcjchegaa", sum := "7551c4a6f8d3f11f6d54ee0fd1385be2011cb34da0388872cdd6772a5e10a8a1", func := "purse/purselaw09.BallotCounts", spec := "ballotCounts", apart := false, narrowed := true }
def BallotCountsUptoSaid : Prop := ballotCountsUptoRow.holds Try.pinned (OpenSpec.upto ballotCountsSpec)

/-- 'purselaw09.BallotMeets', WHERE WHAT IT READS IS OF BULK AT MOST 1048576: true; the input reads as it did. -/
def ballotMeetsUptoRow : OpenClaim := { program := "ytjhegigcjchegaa", sum := "7551c4a6f8d3f11f6d54ee0fd1385be2011cb34da0388872cdd6772a5e10a8a1", func := "purse/purselaw09.BallotMeets", spec := "ballotMeets", apart := false, narrowed := true }
def BallotMeetsUptoSaid : Prop := ballotMeetsUptoRow.holds Try.pinned (OpenSpec.upto ballotMeetsSpec)

/-- 'purselaw09.BallotPlays', WHERE WHAT IT READS IS OF BULK AT MOST 1048576: true; the input reads as it did. -/
def ballotPlaysUptoRow : OpenClaim := { program := "ytjhegigcjchegaa", sum := "7551c4a6f8d3f11f6d54ee0fd1385be2011cb34da0388872cdd6772a5e10a8a1", func := "purse/purselaw09.BallotPlays", spec := "ballotPlays", unfollowed := true, recurses := true, apart := false, narrowed := true }
def BallotPlaysUptoSaid : Prop := ballotPlaysUptoRow.holds Try.pinned (OpenSpec.upto ballotPlaysSpec)

end Rows
end Go.Proofs.Ytjhegigcjchegaa
