/-
  NARROWER THAN 'FOR EVERY INPUT', by the rows' own cells (each row's printed sentence says how): ChunkCuts: laid · ChunkSum: laid · ChunkBack: laid · ChunkOrder: laid · ChunkPlays: laid · ChunkForks: laid.
  DERIVED. THE GIVEN ROWS OF THIS SEAT. 6 by the template 'for every input the law returns true; each argument reads behind the call as it read before'; 0 by the template 'total and deterministic' (their statements: YtgpkenbefolegaaDoorTotals.lean).
  GIVEN WITH THE SEED: the statements are not yours to turn. If you find one false, say at which input.
  Laid BY PROGRAM, IN A SANDBOX (cutbox-rows.mjs): the forced cells as the released guide's own fill.sh prints them over the translation 94c4769e562fdf82… (all of the seat's roots in one cut). By AI agents, Wed Nov 11 2026. No macro, syntax, notation, axiom, sorry.
-/
import Derived.Test.YtgpkenbefolegaaDoorChecked
import GoSem.Claim
import GoSem.ClaimJoined
import GoSem.ClaimMapViews
import Derived.JoinedTies
import Derived.KernelRfl
namespace Go.Proofs.YtgpkenbefolegaaDoor
/- THE CELL 'sum', in the pinned program and in every row, IS THE sha256 OF THE DUMP (.gsa) THAT YtgpkenbefolegaaDoorProg.lean LOADS. Nothing in Lean hashes anything: it is a label: what it is worth is what the hold of that sum in a sandbox is worth. -/
noncomputable def Tryd.pinned : Pinned := { name := "ytgpkenbefolegaadoor", sum := "94c4769e562fdf823b59ea25d87aad9d455962a4d951d11b9040884c1a377d33", checked := Tryd.checked }
namespace Rows
def none {H : Type} : Left H := { results := [], args := [] }

/- WHAT THE LISTED PACKAGE-LEVEL VARIABLES READ AS WHEN THE CALL BEGINS. Each datum BY PROGRAM (the guide's laid-datum.mjs) off the statement by which the dump's own 'gosem.cut.vars' lays the variable. In a bare row this is a premise. The card (YtgpkenbefolegaaDoorCards.lean) ties it to the program's text. -/
def laid_purse_codec_quarter {H : Type} : DataW H := .agg [.lit (.int .u32 0), .lit (.int .u32 498536548), .lit (.int .u32 997073096), .lit (.int .u32 651767980), .lit (.int .u32 1994146192), .lit (.int .u32 1802195444), .lit (.int .u32 1303535960), .lit (.int .u32 1342533948), .lit (.int .u32 3988292384), .lit (.int .u32 4027552580), .lit (.int .u32 3604390888), .lit (.int .u32 3412177804), .lit (.int .u32 2607071920), .lit (.int .u32 2262029012), .lit (.int .u32 2685067896), .lit (.int .u32 3183342108)]

/-- 'purselaw12.ChunkCuts': WHATEVER THE INPUT: true; the input reads as it did. -/
def chunkCutsSpec : ChangeSpec := { name := "chunkCuts", fn := fun _ => fun
  | [d] => { results := [.lit (.bool true)], args := [d] }
  | _ => none }
def chunkCutsRow : OpenClaim := { program := "ytgpkenbefolegaadoor", sum := "94c4769e562fdf823b59ea25d87aad9d455962a4d951d11b9040884c1a377d33", func := "purse/purselaw12.ChunkCuts", spec := "chunkCuts", unfollowed := true, recurses := true, named := ["purse/codec.quarter"], apart := false, laid := [("purse/codec.quarter", laid_purse_codec_quarter)] }
def ChunkCutsSaid : Prop := chunkCutsRow.holds Tryd.pinned (OpenSpec.ofChange chunkCutsSpec)

/-- ITS FALSE NEIGHBOUR: 'it returns false'. Refute it at one input. -/
def chunkCutsWrong : ChangeSpec := { name := "chunkCuts", fn := fun _ => fun
  | [d] => { results := [.lit (.bool false)], args := [d] }
  | _ => none }
def ChunkCutsWrongFalsely : Prop := chunkCutsRow.holds Tryd.pinned (OpenSpec.ofChange chunkCutsWrong)

/-- 'purselaw12.ChunkSum': WHATEVER THE INPUT: true; the input reads as it did. -/
def chunkSumSpec : ChangeSpec := { name := "chunkSum", fn := fun _ => fun
  | [d] => { results := [.lit (.bool true)], args := [d] }
  | _ => none }
def chunkSumRow : OpenClaim := { program := "ytgpkenbefolegaadoor", sum := "94c4769e562fdf823b59ea25d87aad9d455962a4d951d11b9040884c1a377d33", func := "purse/purselaw12.ChunkSum", spec := "chunkSum", named := ["purse/codec.quarter"], apart := false, laid := [("purse/codec.quarter", laid_purse_codec_quarter)] }
def ChunkSumSaid : Prop := chunkSumRow.holds Tryd.pinned (OpenSpec.ofChange chunkSumSpec)

/-- ITS FALSE NEIGHBOUR: 'it returns false'. Refute it at one input. -/
def chunkSumWrong : ChangeSpec := { name := "chunkSum", fn := fun _ => fun
  | [d] => { results := [.lit (.bool false)], args := [d] }
  | _ => none }
def ChunkSumWrongFalsely : Prop := chunkSumRow.holds Tryd.pinned (OpenSpec.ofChange chunkSumWrong)

/-- 'purselaw12.ChunkBack': WHATEVER THE INPUT: true; the input reads as it did. -/
def chunkBackSpec : ChangeSpec := { name := "chunkBack", fn := fun _ => fun
  | [d1, d2] => { results := [.lit (.bool true)], args := [d1, d2] }
  | _ => none }
def chunkBackRow : OpenClaim := { program := "ytgpkenbefolegaadoor", sum := "94c4769e562fdf823b59ea25d87aad9d455962a4d951d11b9040884c1a377d33", func := "purse/purselaw12.ChunkBack", spec := "chunkBack", named := ["purse/codec.quarter"], apart := false, laid := [("purse/codec.quarter", laid_purse_codec_quarter)] }
def ChunkBackSaid : Prop := chunkBackRow.holds Tryd.pinned (OpenSpec.ofChange chunkBackSpec)

/-- ITS FALSE NEIGHBOUR: 'it returns false'. Refute it at one input. -/
def chunkBackWrong : ChangeSpec := { name := "chunkBack", fn := fun _ => fun
  | [d1, d2] => { results := [.lit (.bool false)], args := [d1, d2] }
  | _ => none }
def ChunkBackWrongFalsely : Prop := chunkBackRow.holds Tryd.pinned (OpenSpec.ofChange chunkBackWrong)

/-- 'purselaw12.ChunkOrder': WHATEVER THE INPUT: true; the input reads as it did. -/
def chunkOrderSpec : ChangeSpec := { name := "chunkOrder", fn := fun _ => fun
  | [d1, d2] => { results := [.lit (.bool true)], args := [d1, d2] }
  | _ => none }
def chunkOrderRow : OpenClaim := { program := "ytgpkenbefolegaadoor", sum := "94c4769e562fdf823b59ea25d87aad9d455962a4d951d11b9040884c1a377d33", func := "purse/purselaw12.ChunkOrder", spec := "chunkOrder", named := ["purse/codec.quarter"], apart := false, laid := [("purse/codec.quarter", laid_purse_codec_quarter)] }
def ChunkOrderSaid : Prop := chunkOrderRow.holds Tryd.pinned (OpenSpec.ofChange chunkOrderSpec)

/-- ITS FALSE NEIGHBOUR: 'it returns false'. Refute it at one input. -/
def chunkOrderWrong : ChangeSpec := { name := "chunkOrder", fn := fun _ => fun
  | [d1, d2] => { results := [.lit (.bool false)], args := [d1, d2] }
  | _ => none }
def ChunkOrderWrongFalsely : Prop := chunkOrderRow.holds Tryd.pinned (OpenSpec.ofChange chunkOrderWrong)

/-- 'purselaw12.ChunkPlays': WHATEVER THE INPUT: true; the input reads as it did. -/
def chunkPlaysSpec : ChangeSpec := { name := "chunkPlays", fn := fun _ => fun
  | [d1, d2] => { results := [.lit (.bool true)], args := [d1, d2] }
  | _ => none }
def chunkPlaysRow : OpenClaim := { program := "ytgpkenbefolegaadoor", sum := "94c4769e562fdf823b59ea25d87aad9d455962a4d951d11b9040884c1a377d33", func := "purse/purselaw12.ChunkPlays", spec := "chunkPlays", named := ["purse/codec.quarter"], apart := false, laid := [("purse/codec.quarter", laid_purse_codec_quarter)] }
def ChunkPlaysSaid : Prop := chunkPlaysRow.holds Tryd.pinned (OpenSpec.ofChange chunkPlaysSpec)

/-- ITS FALSE NEIGHBOUR: 'it returns false'. Refute it at one input. -/
def chunkPlaysWrong : ChangeSpec := { name := "chunkPlays", fn := fun _ => fun
  | [d1, d2] => { results := [.lit (.bool false)], args := [d1, d2] }
  | _ => none }
def ChunkPlaysWrongFalsely : Prop := chunkPlaysRow.holds Tryd.pinned (OpenSpec.ofChange chunkPlaysWrong)

/-- 'purselaw12.ChunkForks': WHATEVER THE INPUT: true; the input reads as it did. -/
def chunkForksSpec : ChangeSpec := { name := "chunkForks", fn := fun _ => fun
  | [d1, d2] => { results := [.lit (.bool true)], args := [d1, d2] }
  | _ => none }
def chunkForksRow : OpenClaim := { program := "ytgpkenbefolegaadoor", sum := "94c4769e562fdf823b59ea25d87aad9d455962a4d951d11b9040884c1a377d33", func := "purse/purselaw12.ChunkForks", spec := "chunkForks", inPlace := ["maps.clone"], named := ["purse/codec.quarter"], apart := false, laid := [("purse/codec.quarter", laid_purse_codec_quarter)] }
def ChunkForksSaid : Prop := chunkForksRow.holds Tryd.pinned (OpenSpec.ofChange chunkForksSpec)

/-- ITS FALSE NEIGHBOUR: 'it returns false'. Refute it at one input. -/
def chunkForksWrong : ChangeSpec := { name := "chunkForks", fn := fun _ => fun
  | [d1, d2] => { results := [.lit (.bool false)], args := [d1, d2] }
  | _ => none }
def ChunkForksWrongFalsely : Prop := chunkForksRow.holds Tryd.pinned (OpenSpec.ofChange chunkForksWrong)

/- THE SECOND FORM. 'bulk': how many values and letters a reading holds, each counted each time it is reached (what is shared counts as often as it is met; a slice's spare places count too). A statement '..UptoSaid' is the law's where the arguments, and the package variables that the reading takes, are together of bulk at most 1048576: NARROWER than '..Said'. Prove '..Said' where nothing that the law and all that it calls make is longer than what came in: it says more and counts as full. Else prove '..UptoSaid'. A law counts once. -/
mutual
def uptoBulk {H : Type} : DataW H → Nat
  | .lit (.string bytes) => bytes.length + 1
  | .lit _ => 1
  | .nil => 1
  | .ptr d => uptoBulk d + 1
  | .slice elems spare => uptoBulkAll elems + uptoBulkAll spare + 1
  | .agg parts => uptoBulkAll parts + 1
  | .iface _ d => uptoBulk d + 1
  | .map entries => uptoBulkEntries entries + 1
  | .held _ => 1
def uptoBulkAll {H : Type} : List (DataW H) → Nat
  | [] => 0
  | d :: r => uptoBulk d + uptoBulkAll r
def uptoBulkEntries {H : Type} : List (Lit × DataW H) → Nat
  | [] => 0
  | x :: r => uptoBulkEntry x + uptoBulkEntries r
def uptoBulkEntry {H : Type} : Lit × DataW H → Nat
  | (.string bytes, d) => bytes.length + uptoBulk d + 1
  | (_, d) => uptoBulk d + 1
 end
def uptoSmall : (H : Type) → List (DataW H) → Bool := fun _ ds => decide (uptoBulkAll ds ≤ 1048576)
def OpenSpec.upto (s : _root_.Go.ChangeSpec) : _root_.Go.OpenSpec := { _root_.Go.OpenSpec.ofChange s with cond := some uptoSmall }

/-- 'purselaw12.ChunkCuts', WHERE WHAT IT READS IS OF BULK AT MOST 1048576: true; the input reads as it did. -/
def chunkCutsUptoRow : OpenClaim := { program := "ytgpkenbefolegaadoor", sum := "94c4769e562fdf823b59ea25d87aad9d455962a4d951d11b9040884c1a377d33", func := "purse/purselaw12.ChunkCuts", spec := "chunkCuts", unfollowed := true, recurses := true, named := ["purse/codec.quarter"], apart := false, laid := [("purse/codec.quarter", laid_purse_codec_quarter)], narrowed := true }
def ChunkCutsUptoSaid : Prop := chunkCutsUptoRow.holds Tryd.pinned (OpenSpec.upto chunkCutsSpec)

/-- 'purselaw12.ChunkSum', WHERE WHAT IT READS IS OF BULK AT MOST 1048576: true; the input reads as it did. -/
def chunkSumUptoRow : OpenClaim := { program := "ytgpkenbefolegaadoor", sum := "94c4769e562fdf823b59ea25d87aad9d455962a4d951d11b9040884c1a377d33", func := "purse/purselaw12.ChunkSum", spec := "chunkSum", named := ["purse/codec.quarter"], apart := false, laid := [("purse/codec.quarter", laid_purse_codec_quarter)], narrowed := true }
def ChunkSumUptoSaid : Prop := chunkSumUptoRow.holds Tryd.pinned (OpenSpec.upto chunkSumSpec)

/-- 'purselaw12.ChunkBack', WHERE WHAT IT READS IS OF BULK AT MOST 1048576: true; the input reads as it did. -/
def chunkBackUptoRow : OpenClaim := { program := "ytgpkenbefolegaadoor", sum := "94c4769e562fdf823b59ea25d87aad9d455962a4d951d11b9040884c1a377d33", func := "purse/purselaw12.ChunkBack", spec := "chunkBack", named := ["purse/codec.quarter"], apart := false, laid := [("purse/codec.quarter", laid_purse_codec_quarter)], narrowed := true }
def ChunkBackUptoSaid : Prop := chunkBackUptoRow.holds Tryd.pinned (OpenSpec.upto chunkBackSpec)

/-- 'purselaw12.ChunkOrder', WHERE WHAT IT READS IS OF BULK AT MOST 1048576: true; the input reads as it did. -/
def chunkOrderUptoRow : OpenClaim := { program := "ytgpkenbefolegaadoor", sum := "94c4769e562fdf823b59ea25d87aad9d455962a4d951d11b9040884c1a377d33", func := "purse/purselaw12.ChunkOrder", spec := "chunkOrder", named := ["purse/codec.quarter"], apart := false, laid := [("purse/codec.quarter", laid_purse_codec_quarter)], narrowed := true }
def ChunkOrderUptoSaid : Prop := chunkOrderUptoRow.holds Tryd.pinned (OpenSpec.upto chunkOrderSpec)

/-- 'purselaw12.ChunkPlays', WHERE WHAT IT READS IS OF BULK AT MOST 1048576: true; the input reads as it did. -/
def chunkPlaysUptoRow : OpenClaim := { program := "ytgpkenbefolegaadoor", sum := "94c4769e562fdf823b59ea25d87aad9d455962a4d951d11b9040884c1a377d33", func := "purse/purselaw12.ChunkPlays", spec := "chunkPlays", named := ["purse/codec.quarter"], apart := false, laid := [("purse/codec.quarter", laid_purse_codec_quarter)], narrowed := true }
def ChunkPlaysUptoSaid : Prop := chunkPlaysUptoRow.holds Tryd.pinned (OpenSpec.upto chunkPlaysSpec)

/-- 'purselaw12.ChunkForks', WHERE WHAT IT READS IS OF BULK AT MOST 1048576: true; the input reads as it did. -/
def chunkForksUptoRow : OpenClaim := { program := "ytgpkenbefolegaadoor", sum := "94c4769e562fdf823b59ea25d87aad9d455962a4d951d11b9040884c1a377d33", func := "purse/purselaw12.ChunkForks", spec := "chunkForks", inPlace := ["maps.clone"], named := ["purse/codec.quarter"], apart := false, laid := [("purse/codec.quarter", laid_purse_codec_quarter)], narrowed := true }
def ChunkForksUptoSaid : Prop := chunkForksUptoRow.holds Tryd.pinned (OpenSpec.upto chunkForksSpec)

end Rows
end Go.Proofs.YtgpkenbefolegaaDoor
