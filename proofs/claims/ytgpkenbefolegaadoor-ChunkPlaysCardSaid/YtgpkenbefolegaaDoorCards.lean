/-
  DERIVED. GIVEN WITH THE SEED: THE CARDS: each row of YtgpkenbefolegaaDoorRows.lean that lists a variable, with what it lists TIED to the program's text (the seventh form; the later family's looks); each row that meets fmt, with fmt's text TOLD by the authors' own Lean function (tested against real Go, not proved from fmt's source: count such statements apart). THE CARD IS WHAT COUNTS. Prove the row's statement (the work); the ties are given (YtgpkenbefolegaaDoorTie.lean); close each card by the builder's one call (the guide's Derived/Test/ToyasCard.lean, 'card_holds'). Laid BY PROGRAM, IN A SANDBOX (cutbox-door.mjs). By AI agents, Wed Nov 11 2026. No macro, syntax, notation, axiom, sorry.
-/
import Derived.Test.YtgpkenbefolegaaDoorRows
import GoSem.ClaimSeven
namespace Go.Proofs.YtgpkenbefolegaaDoor
namespace Rows

/-- THE TIED CARD OF 'purselaw12.ChunkCuts'. -/
def chunkCutsCard : Claim7 := { stood := { row := chunkCutsRow, standIns := [], harness := (true, "cf782b1a00ae87b650b8f854d2a62125916e481ac202f31bef1ab7127bf6bf8e"), looks := true }, kinds := [], alts := [], laidByText := true, laidKinds := [.data], laidTests := true, laidLooks := .later }
def ChunkCutsCardSaid : Prop := Claim7.holds Tryd.pinned (.plain (OpenSpec.ofChange chunkCutsSpec)) chunkCutsCard

/-- THE TIED CARD OF 'purselaw12.ChunkSum'. -/
def chunkSumCard : Claim7 := { stood := { row := chunkSumRow, standIns := [], harness := (true, "cf782b1a00ae87b650b8f854d2a62125916e481ac202f31bef1ab7127bf6bf8e"), looks := true }, kinds := [], alts := [], laidByText := true, laidKinds := [.data], laidTests := true, laidLooks := .later }
def ChunkSumCardSaid : Prop := Claim7.holds Tryd.pinned (.plain (OpenSpec.ofChange chunkSumSpec)) chunkSumCard

/-- THE TIED CARD OF 'purselaw12.ChunkBack'. -/
def chunkBackCard : Claim7 := { stood := { row := chunkBackRow, standIns := [], harness := (true, "cf782b1a00ae87b650b8f854d2a62125916e481ac202f31bef1ab7127bf6bf8e"), looks := true }, kinds := [], alts := [], laidByText := true, laidKinds := [.data], laidTests := true, laidLooks := .later }
def ChunkBackCardSaid : Prop := Claim7.holds Tryd.pinned (.plain (OpenSpec.ofChange chunkBackSpec)) chunkBackCard

/-- THE TIED CARD OF 'purselaw12.ChunkOrder'. -/
def chunkOrderCard : Claim7 := { stood := { row := chunkOrderRow, standIns := [], harness := (true, "cf782b1a00ae87b650b8f854d2a62125916e481ac202f31bef1ab7127bf6bf8e"), looks := true }, kinds := [], alts := [], laidByText := true, laidKinds := [.data], laidTests := true, laidLooks := .later }
def ChunkOrderCardSaid : Prop := Claim7.holds Tryd.pinned (.plain (OpenSpec.ofChange chunkOrderSpec)) chunkOrderCard

/-- THE TIED CARD OF 'purselaw12.ChunkPlays'. -/
def chunkPlaysCard : Claim7 := { stood := { row := chunkPlaysRow, standIns := [], harness := (true, "cf782b1a00ae87b650b8f854d2a62125916e481ac202f31bef1ab7127bf6bf8e"), looks := true }, kinds := [], alts := [], laidByText := true, laidKinds := [.data], laidTests := true, laidLooks := .later }
def ChunkPlaysCardSaid : Prop := Claim7.holds Tryd.pinned (.plain (OpenSpec.ofChange chunkPlaysSpec)) chunkPlaysCard

/-- THE TIED CARD OF 'purselaw12.ChunkForks'. -/
def chunkForksCard : Claim7 := { stood := { row := chunkForksRow, standIns := [], harness := (true, "cf782b1a00ae87b650b8f854d2a62125916e481ac202f31bef1ab7127bf6bf8e"), looks := true }, kinds := [], alts := [], laidByText := true, laidKinds := [.data], laidTests := true, laidLooks := .later }
def ChunkForksCardSaid : Prop := Claim7.holds Tryd.pinned (.plain (OpenSpec.ofChange chunkForksSpec)) chunkForksCard

/-- THE SECOND FORM's CARD OF 'purselaw12.ChunkCuts'. -/
def chunkCutsUptoCard : Claim7 := { stood := { row := chunkCutsUptoRow, standIns := [], harness := (true, "cf782b1a00ae87b650b8f854d2a62125916e481ac202f31bef1ab7127bf6bf8e"), looks := true }, kinds := [], alts := [], laidByText := true, laidKinds := [.data], laidTests := true, laidLooks := .later }
def ChunkCutsUptoCardSaid : Prop := Claim7.holds Tryd.pinned (.plain (OpenSpec.upto chunkCutsSpec)) chunkCutsUptoCard

/-- THE SECOND FORM's CARD OF 'purselaw12.ChunkSum'. -/
def chunkSumUptoCard : Claim7 := { stood := { row := chunkSumUptoRow, standIns := [], harness := (true, "cf782b1a00ae87b650b8f854d2a62125916e481ac202f31bef1ab7127bf6bf8e"), looks := true }, kinds := [], alts := [], laidByText := true, laidKinds := [.data], laidTests := true, laidLooks := .later }
def ChunkSumUptoCardSaid : Prop := Claim7.holds Tryd.pinned (.plain (OpenSpec.upto chunkSumSpec)) chunkSumUptoCard

/-- THE SECOND FORM's CARD OF 'purselaw12.ChunkBack'. -/
def chunkBackUptoCard : Claim7 := { stood := { row := chunkBackUptoRow, standIns := [], harness := (true, "cf782b1a00ae87b650b8f854d2a62125916e481ac202f31bef1ab7127bf6bf8e"), looks := true }, kinds := [], alts := [], laidByText := true, laidKinds := [.data], laidTests := true, laidLooks := .later }
def ChunkBackUptoCardSaid : Prop := Claim7.holds Tryd.pinned (.plain (OpenSpec.upto chunkBackSpec)) chunkBackUptoCard

/-- THE SECOND FORM's CARD OF 'purselaw12.ChunkOrder'. -/
def chunkOrderUptoCard : Claim7 := { stood := { row := chunkOrderUptoRow, standIns := [], harness := (true, "cf782b1a00ae87b650b8f854d2a62125916e481ac202f31bef1ab7127bf6bf8e"), looks := true }, kinds := [], alts := [], laidByText := true, laidKinds := [.data], laidTests := true, laidLooks := .later }
def ChunkOrderUptoCardSaid : Prop := Claim7.holds Tryd.pinned (.plain (OpenSpec.upto chunkOrderSpec)) chunkOrderUptoCard

/-- THE SECOND FORM's CARD OF 'purselaw12.ChunkPlays'. -/
def chunkPlaysUptoCard : Claim7 := { stood := { row := chunkPlaysUptoRow, standIns := [], harness := (true, "cf782b1a00ae87b650b8f854d2a62125916e481ac202f31bef1ab7127bf6bf8e"), looks := true }, kinds := [], alts := [], laidByText := true, laidKinds := [.data], laidTests := true, laidLooks := .later }
def ChunkPlaysUptoCardSaid : Prop := Claim7.holds Tryd.pinned (.plain (OpenSpec.upto chunkPlaysSpec)) chunkPlaysUptoCard

/-- THE SECOND FORM's CARD OF 'purselaw12.ChunkForks'. -/
def chunkForksUptoCard : Claim7 := { stood := { row := chunkForksUptoRow, standIns := [], harness := (true, "cf782b1a00ae87b650b8f854d2a62125916e481ac202f31bef1ab7127bf6bf8e"), looks := true }, kinds := [], alts := [], laidByText := true, laidKinds := [.data], laidTests := true, laidLooks := .later }
def ChunkForksUptoCardSaid : Prop := Claim7.holds Tryd.pinned (.plain (OpenSpec.upto chunkForksSpec)) chunkForksUptoCard
end Rows
end Go.Proofs.YtgpkenbefolegaaDoor
