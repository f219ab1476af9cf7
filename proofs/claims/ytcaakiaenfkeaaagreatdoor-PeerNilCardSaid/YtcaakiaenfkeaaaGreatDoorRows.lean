/-
  NARROWER THAN 'FOR EVERY INPUT', by the rows' own cells (each row's printed sentence says how): PeerRivals: laid · PeerSteady: laid · PeerCatches: laid · PeerNil: laid · PeerTakes: laid.
  DERIVED. THE GIVEN ROWS OF THIS SEAT. 5 by the template 'for every input the law returns true; each argument reads behind the call as it read before'; 0 by the template 'total and deterministic' (their statements: YtcaakiaenfkeaaaGreatDoorTotals.lean).
  GIVEN WITH THE SEED: the statements are not yours to turn. If you find one false, say at which input.
  Laid BY PROGRAM, IN A SANDBOX (cutbox-rows.mjs): the forced cells as the released guide's own fill.sh prints them over the translation 4959d606ef6f6b9f… (all of the seat's roots in one cut). By AI agents, Wed Nov 11 2026. No macro, syntax, notation, axiom, sorry.
-/
import Derived.Test.YtcaakiaenfkeaaaGreatDoorChecked
import GoSem.Claim
import GoSem.ClaimJoined
import GoSem.ClaimMapViews
import Derived.JoinedTies
import Derived.KernelRfl
namespace Go.Proofs.YtcaakiaenfkeaaaGreatDoor
/- THE CELL 'sum', in the pinned program and in every row, IS THE sha256 OF THE DUMP (.gsa) THAT YtcaakiaenfkeaaaGreatDoorProg.lean LOADS. Nothing in Lean hashes anything: it is a label: what it is worth is what the hold of that sum in a sandbox is worth. -/
noncomputable def Tryz.pinned : Pinned := { name := "ytcaakiaenfkeaaagreatdoor", sum := "4959d606ef6f6b9fcd9b3569263ba76eea7d950cf89751c63264317b0604dd51", checked := Tryz.checked }
namespace Rows
def none {H : Type} : Left H := { results := [], args := [] }

/- WHAT THE LISTED PACKAGE-LEVEL VARIABLES READ AS WHEN THE CALL BEGINS. Each datum BY PROGRAM (the guide's laid-datum.mjs) off the statement by which the dump's own 'gosem.cut.vars' lays the variable. In a bare row this is a premise. The card (YtcaakiaenfkeaaaGreatDoorCards.lean) ties it to the program's text. -/
def laid_purse_codec_quarter {H : Type} : DataW H := .agg [.lit (.int .u32 0), .lit (.int .u32 498536548), .lit (.int .u32 997073096), .lit (.int .u32 651767980), .lit (.int .u32 1994146192), .lit (.int .u32 1802195444), .lit (.int .u32 1303535960), .lit (.int .u32 1342533948), .lit (.int .u32 3988292384), .lit (.int .u32 4027552580), .lit (.int .u32 3604390888), .lit (.int .u32 3412177804), .lit (.int .u32 2607071920), .lit (.int .u32 2262029012), .lit (.int .u32 2685067896), .lit (.int .u32 3183342108)]

/-- 'purselaw13.PeerRivals': WHATEVER THE INPUT: true; the input reads as it did. -/
def peerRivalsSpec : ChangeSpec := { name := "peerRivals", fn := fun _ => fun
  | [d1, d2, d3] => { results := [.lit (.bool true)], args := [d1, d2, d3] }
  | _ => none }
def peerRivalsRow : OpenClaim := { program := "ytcaakiaenfkeaaagreatdoor", sum := "4959d606ef6f6b9fcd9b3569263ba76eea7d950cf89751c63264317b0604dd51", func := "purse/purselaw13.PeerRivals", spec := "peerRivals", unfollowed := true, recurses := true, named := ["purse/codec.quarter"], apart := false, laid := [("purse/codec.quarter", laid_purse_codec_quarter)] }
def PeerRivalsSaid : Prop := peerRivalsRow.holds Tryz.pinned (OpenSpec.ofChange peerRivalsSpec)

/-- ITS FALSE NEIGHBOUR: 'it returns false'. Refute it at one input. -/
def peerRivalsWrong : ChangeSpec := { name := "peerRivals", fn := fun _ => fun
  | [d1, d2, d3] => { results := [.lit (.bool false)], args := [d1, d2, d3] }
  | _ => none }
def PeerRivalsWrongFalsely : Prop := peerRivalsRow.holds Tryz.pinned (OpenSpec.ofChange peerRivalsWrong)

/-- 'purselaw13.PeerSteady': WHATEVER THE INPUT: true; the input reads as it did. -/
def peerSteadySpec : ChangeSpec := { name := "peerSteady", fn := fun _ => fun
  | [d1, d2, d3] => { results := [.lit (.bool true)], args := [d1, d2, d3] }
  | _ => none }
def peerSteadyRow : OpenClaim := { program := "ytcaakiaenfkeaaagreatdoor", sum := "4959d606ef6f6b9fcd9b3569263ba76eea7d950cf89751c63264317b0604dd51", func := "purse/purselaw13.PeerSteady", spec := "peerSteady", unfollowed := true, recurses := true, named := ["purse/codec.quarter"], apart := false, laid := [("purse/codec.quarter", laid_purse_codec_quarter)] }
def PeerSteadySaid : Prop := peerSteadyRow.holds Tryz.pinned (OpenSpec.ofChange peerSteadySpec)

/-- ITS FALSE NEIGHBOUR: 'it returns false'. Refute it at one input. -/
def peerSteadyWrong : ChangeSpec := { name := "peerSteady", fn := fun _ => fun
  | [d1, d2, d3] => { results := [.lit (.bool false)], args := [d1, d2, d3] }
  | _ => none }
def PeerSteadyWrongFalsely : Prop := peerSteadyRow.holds Tryz.pinned (OpenSpec.ofChange peerSteadyWrong)

/-- 'purselaw13.PeerCatches': WHATEVER THE INPUT: true; the input reads as it did. -/
def peerCatchesSpec : ChangeSpec := { name := "peerCatches", fn := fun _ => fun
  | [d1, d2, d3] => { results := [.lit (.bool true)], args := [d1, d2, d3] }
  | _ => none }
def peerCatchesRow : OpenClaim := { program := "ytcaakiaenfkeaaagreatdoor", sum := "4959d606ef6f6b9fcd9b3569263ba76eea7d950cf89751c63264317b0604dd51", func := "purse/purselaw13.PeerCatches", spec := "peerCatches", unfollowed := true, recurses := true, named := ["purse/codec.quarter"], apart := false, laid := [("purse/codec.quarter", laid_purse_codec_quarter)] }
def PeerCatchesSaid : Prop := peerCatchesRow.holds Tryz.pinned (OpenSpec.ofChange peerCatchesSpec)

/-- ITS FALSE NEIGHBOUR: 'it returns false'. Refute it at one input. -/
def peerCatchesWrong : ChangeSpec := { name := "peerCatches", fn := fun _ => fun
  | [d1, d2, d3] => { results := [.lit (.bool false)], args := [d1, d2, d3] }
  | _ => none }
def PeerCatchesWrongFalsely : Prop := peerCatchesRow.holds Tryz.pinned (OpenSpec.ofChange peerCatchesWrong)

/-- 'purselaw13.PeerNil': WHATEVER THE INPUT: true; the input reads as it did. -/
def peerNilSpec : ChangeSpec := { name := "peerNil", fn := fun _ => fun
  | [d1, d2, d3] => { results := [.lit (.bool true)], args := [d1, d2, d3] }
  | _ => none }
def peerNilRow : OpenClaim := { program := "ytcaakiaenfkeaaagreatdoor", sum := "4959d606ef6f6b9fcd9b3569263ba76eea7d950cf89751c63264317b0604dd51", func := "purse/purselaw13.PeerNil", spec := "peerNil", unfollowed := true, recurses := true, named := ["purse/codec.quarter"], apart := false, laid := [("purse/codec.quarter", laid_purse_codec_quarter)] }
def PeerNilSaid : Prop := peerNilRow.holds Tryz.pinned (OpenSpec.ofChange peerNilSpec)

/-- ITS FALSE NEIGHBOUR: 'it returns false'. Refute it at one input. -/
def peerNilWrong : ChangeSpec := { name := "peerNil", fn := fun _ => fun
  | [d1, d2, d3] => { results := [.lit (.bool false)], args := [d1, d2, d3] }
  | _ => none }
def PeerNilWrongFalsely : Prop := peerNilRow.holds Tryz.pinned (OpenSpec.ofChange peerNilWrong)

/-- 'purselaw13.PeerTakes': WHATEVER THE INPUT: true; the input reads as it did. -/
def peerTakesSpec : ChangeSpec := { name := "peerTakes", fn := fun _ => fun
  | [d1, d2, d3, d4, d5] => { results := [.lit (.bool true)], args := [d1, d2, d3, d4, d5] }
  | _ => none }
def peerTakesRow : OpenClaim := { program := "ytcaakiaenfkeaaagreatdoor", sum := "4959d606ef6f6b9fcd9b3569263ba76eea7d950cf89751c63264317b0604dd51", func := "purse/purselaw13.PeerTakes", spec := "peerTakes", unfollowed := true, recurses := true, named := ["purse/codec.quarter"], apart := false, laid := [("purse/codec.quarter", laid_purse_codec_quarter)] }
def PeerTakesSaid : Prop := peerTakesRow.holds Tryz.pinned (OpenSpec.ofChange peerTakesSpec)

/-- ITS FALSE NEIGHBOUR: 'it returns false'. Refute it at one input. -/
def peerTakesWrong : ChangeSpec := { name := "peerTakes", fn := fun _ => fun
  | [d1, d2, d3, d4, d5] => { results := [.lit (.bool false)], args := [d1, d2, d3, d4, d5] }
  | _ => none }
def PeerTakesWrongFalsely : Prop := peerTakesRow.holds Tryz.pinned (OpenSpec.ofChange peerTakesWrong)

/- THE SECOND FORM. 'bulk': how many values and letters a reading holds, each counted each time it is reached (what is shared counts as often as it is met; a slice's spare places count too). A statement '..UptoSaid' is the law's where the arguments, and the package variables that the reading takes, are together of bulk at most 1048576: NARROWER than '..Said'. Prove '..Said' where nothing that the law and all that it calls make is longer than what came in: it says more and counts as full. Else prove '..UptoSaid'. A law counts once. -/
mutual
def uptoBulk {H : Type} : DataW H → Nat
  | .lit (.string bytes) => bytes.length + 1
  | .lit _ => 1
  | .nil => 1
  | .ptr d => uptoBulk d + 1
  | .slice elems spare => uptoBulkAll elems + uptoBulkAll spare + 1
  | .agg parts => uptoBulkAll parts + 1
  | .iface _ d => uptoBulk d + 1
  | .map entries => uptoBulkEntries entries + 1
  | .held _ => 1
def uptoBulkAll {H : Type} : List (DataW H) → Nat
  | [] => 0
  | d :: r => uptoBulk d + uptoBulkAll r
def uptoBulkEntries {H : Type} : List (Lit × DataW H) → Nat
  | [] => 0
  | x :: r => uptoBulkEntry x + uptoBulkEntries r
def uptoBulkEntry {H : Type} : Lit × DataW H → Nat
  | (.string bytes, d) => bytes.length + uptoBulk d + 1
  | (_, d) => uptoBulk d + 1
 end
def uptoSmall : (H : Type) → List (DataW H) → Bool := fun _ ds => decide (uptoBulkAll ds ≤ 1048576)
def OpenSpec.upto (s : _root_.Go.ChangeSpec) : _root_.Go.OpenSpec := { _root_.Go.OpenSpec.ofChange s with cond := some uptoSmall }

/-- 'purselaw13.PeerRivals', WHERE WHAT IT READS IS OF BULK AT MOST 1048576: true; the input reads as it did. -/
def peerRivalsUptoRow : OpenClaim := { program := "ytcaakiaenfkeaaagreatdoor", sum := "4959d606ef6f6b9fcd9b3569263ba76eea7d950cf89751c63264317b0604dd51", func := "purse/purselaw13.PeerRivals", spec := "peerRivals", unfollowed := true, recurses := true, named := ["purse/codec.quarter"], apart := false, laid := [("purse/codec.quarter", laid_purse_codec_quarter)], narrowed := true }
def PeerRivalsUptoSaid : Prop := peerRivalsUptoRow.holds Tryz.pinned (OpenSpec.upto peerRivalsSpec)

/-- 'purselaw13.PeerSteady', WHERE WHAT IT READS IS OF BULK AT MOST 1048576: true; the input reads as it did. -/
def peerSteadyUptoRow : OpenClaim := { program := "ytcaakiaenfkeaaagreatdoor", sum := "4959d606ef6f6b9fcd9b3569263ba76eea7d950cf89751c63264317b0604dd51", func := "purse/purselaw13.PeerSteady", spec := "peerSteady", unfollowed := true, recurses := true, named := ["purse/codec.quarter"], apart := false, laid := [("purse/codec.quarter", laid_purse_codec_quarter)], narrowed := true }
def PeerSteadyUptoSaid : Prop := peerSteadyUptoRow.holds Tryz.pinned (OpenSpec.upto peerSteadySpec)

/-- 'purselaw13.PeerCatches', WHERE WHAT IT READS IS OF BULK AT MOST 1048576: true; the input reads as it did. -/
def peerCatchesUptoRow : OpenClaim := { program := "ytcaakiaenfkeaaagreatdoor", sum := "4959d606ef6f6b9fcd9b3569263ba76eea7d950cf89751c63264317b0604dd51", func := "purse/purselaw13.PeerCatches", spec := "peerCatches", unfollowed := true, recurses := true, named := ["purse/codec.quarter"], apart := false, laid := [("purse/codec.quarter", laid_purse_codec_quarter)], narrowed := true }
def PeerCatchesUptoSaid : Prop := peerCatchesUptoRow.holds Tryz.pinned (OpenSpec.upto peerCatchesSpec)

/-- 'purselaw13.PeerNil', WHERE WHAT IT READS IS OF BULK AT MOST 1048576: true; the input reads as it did. -/
def peerNilUptoRow : OpenClaim := { program := "ytcaakiaenfkeaaagreatdoor", sum := "4959d606ef6f6b9fcd9b3569263ba76eea7d950cf89751c63264317b0604dd51", func := "purse/purselaw13.PeerNil", spec := "peerNil", unfollowed := true, recurses := true, named := ["purse/codec.quarter"], apart := false, laid := [("purse/codec.quarter", laid_purse_codec_quarter)], narrowed := true }
def PeerNilUptoSaid : Prop := peerNilUptoRow.holds Tryz.pinned (OpenSpec.upto peerNilSpec)

/-- 'purselaw13.PeerTakes', WHERE WHAT IT READS IS OF BULK AT MOST 1048576: true; the input reads as it did. -/
def peerTakesUptoRow : OpenClaim := { program := "ytcaakiaenfkeaaagreatdoor", sum := "4959d606ef6f6b9fcd9b3569263ba76eea7d950cf89751c63264317b0604dd51", func := "purse/purselaw13.PeerTakes", spec := "peerTakes", unfollowed := true, recurses := true, named := ["purse/codec.quarter"], apart := false, laid := [("purse/codec.quarter", laid_purse_codec_quarter)], narrowed := true }
def PeerTakesUptoSaid : Prop := peerTakesUptoRow.holds Tryz.pinned (OpenSpec.upto peerTakesSpec)

end Rows
end Go.Proofs.YtcaakiaenfkeaaaGreatDoor
