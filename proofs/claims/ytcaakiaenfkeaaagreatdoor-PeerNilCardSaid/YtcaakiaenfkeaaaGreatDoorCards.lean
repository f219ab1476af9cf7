/-
  DERIVED. GIVEN WITH THE SEED: THE CARDS: each row of YtcaakiaenfkeaaaGreatDoorRows.lean that lists a variable, with what it lists TIED to the program's text (the seventh form; the later family's looks); each row that meets fmt, with fmt's text TOLD by the authors' own Lean function (tested against real Go, not proved from fmt's source: count such statements apart). THE CARD IS WHAT COUNTS. Prove the row's statement (the work); the ties are given (YtcaakiaenfkeaaaGreatDoorTie.lean); close each card by the builder's one call (the guide's Derived/Test/ToyasCard.lean, 'card_holds'). Laid BY PROGRAM, IN A SANDBOX (cutbox-door.mjs). By AI agents, Wed Nov 11 2026. No macro, syntax, notation, axiom, sorry.
-/
import Derived.Test.YtcaakiaenfkeaaaGreatDoorRows
import GoSem.ClaimSeven
namespace Go.Proofs.YtcaakiaenfkeaaaGreatDoor
namespace Rows

/-- THE TIED CARD OF 'purselaw13.PeerRivals'. -/
def peerRivalsCard : Claim7 := { stood := { row := peerRivalsRow, standIns := [], harness := (true, "743c55876ce0908232cda25907ddf4abb0e59842e95dcb3cffd1abb335c0c95f"), looks := false }, kinds := [], alts := [], laidByText := true, laidKinds := [.data], laidTests := true, laidLooks := .later }
def PeerRivalsCardSaid : Prop := Claim7.holds Tryz.pinned (.plain (OpenSpec.ofChange peerRivalsSpec)) peerRivalsCard

/-- THE TIED CARD OF 'purselaw13.PeerSteady'. -/
def peerSteadyCard : Claim7 := { stood := { row := peerSteadyRow, standIns := [], harness := (true, "743c55876ce0908232cda25907ddf4abb0e59842e95dcb3cffd1abb335c0c95f"), looks := false }, kinds := [], alts := [], laidByText := true, laidKinds := [.data], laidTests := true, laidLooks := .later }
def PeerSteadyCardSaid : Prop := Claim7.holds Tryz.pinned (.plain (OpenSpec.ofChange peerSteadySpec)) peerSteadyCard

/-- THE TIED CARD OF 'purselaw13.PeerCatches'. -/
def peerCatchesCard : Claim7 := { stood := { row := peerCatchesRow, standIns := [], harness := (true, "743c55876ce0908232cda25907ddf4abb0e59842e95dcb3cffd1abb335c0c95f"), looks := false }, kinds := [], alts := [], laidByText := true, laidKinds := [.data], laidTests := true, laidLooks := .later }
def PeerCatchesCardSaid : Prop := Claim7.holds Tryz.pinned (.plain (OpenSpec.ofChange peerCatchesSpec)) peerCatchesCard

/-- THE TIED CARD OF 'purselaw13.PeerNil'. -/
def peerNilCard : Claim7 := { stood := { row := peerNilRow, standIns := [], harness := (true, "743c55876ce0908232cda25907ddf4abb0e59842e95dcb3cffd1abb335c0c95f"), looks := false }, kinds := [], alts := [], laidByText := true, laidKinds := [.data], laidTests := true, laidLooks := .later }
def PeerNilCardSaid : Prop := Claim7.holds Tryz.pinned (.plain (OpenSpec.ofChange peerNilSpec)) peerNilCard

/-- THE TIED CARD OF 'purselaw13.PeerTakes'. -/
def peerTakesCard : Claim7 := { stood := { row := peerTakesRow, standIns := [], harness := (true, "743c55876ce0908232cda25907ddf4abb0e59842e95dcb3cffd1abb335c0c95f"), looks := false }, kinds := [], alts := [], laidByText := true, laidKinds := [.data], laidTests := true, laidLooks := .later }
def PeerTakesCardSaid : Prop := Claim7.holds Tryz.pinned (.plain (OpenSpec.ofChange peerTakesSpec)) peerTakesCard

/-- THE SECOND FORM's CARD OF 'purselaw13.PeerRivals'. -/
def peerRivalsUptoCard : Claim7 := { stood := { row := peerRivalsUptoRow, standIns := [], harness := (true, "743c55876ce0908232cda25907ddf4abb0e59842e95dcb3cffd1abb335c0c95f"), looks := false }, kinds := [], alts := [], laidByText := true, laidKinds := [.data], laidTests := true, laidLooks := .later }
def PeerRivalsUptoCardSaid : Prop := Claim7.holds Tryz.pinned (.plain (OpenSpec.upto peerRivalsSpec)) peerRivalsUptoCard

/-- THE SECOND FORM's CARD OF 'purselaw13.PeerSteady'. -/
def peerSteadyUptoCard : Claim7 := { stood := { row := peerSteadyUptoRow, standIns := [], harness := (true, "743c55876ce0908232cda25907ddf4abb0e59842e95dcb3cffd1abb335c0c95f"), looks := false }, kinds := [], alts := [], laidByText := true, laidKinds := [.data], laidTests := true, laidLooks := .later }
def PeerSteadyUptoCardSaid : Prop := Claim7.holds Tryz.pinned (.plain (OpenSpec.upto peerSteadySpec)) peerSteadyUptoCard

/-- THE SECOND FORM's CARD OF 'purselaw13.PeerCatches'. -/
def peerCatchesUptoCard : Claim7 := { stood := { row := peerCatchesUptoRow, standIns := [], harness := (true, "743c55876ce0908232cda25907ddf4abb0e59842e95dcb3cffd1abb335c0c95f"), looks := false }, kinds := [], alts := [], laidByText := true, laidKinds := [.data], laidTests := true, laidLooks := .later }
def PeerCatchesUptoCardSaid : Prop := Claim7.holds Tryz.pinned (.plain (OpenSpec.upto peerCatchesSpec)) peerCatchesUptoCard

/-- THE SECOND FORM's CARD OF 'purselaw13.PeerNil'. -/
def peerNilUptoCard : Claim7 := { stood := { row := peerNilUptoRow, standIns := [], harness := (true, "743c55876ce0908232cda25907ddf4abb0e59842e95dcb3cffd1abb335c0c95f"), looks := false }, kinds := [], alts := [], laidByText := true, laidKinds := [.data], laidTests := true, laidLooks := .later }
def PeerNilUptoCardSaid : Prop := Claim7.holds Tryz.pinned (.plain (OpenSpec.upto peerNilSpec)) peerNilUptoCard

/-- THE SECOND FORM's CARD OF 'purselaw13.PeerTakes'. -/
def peerTakesUptoCard : Claim7 := { stood := { row := peerTakesUptoRow, standIns := [], harness := (true, "743c55876ce0908232cda25907ddf4abb0e59842e95dcb3cffd1abb335c0c95f"), looks := false }, kinds := [], alts := [], laidByText := true, laidKinds := [.data], laidTests := true, laidLooks := .later }
def PeerTakesUptoCardSaid : Prop := Claim7.holds Tryz.pinned (.plain (OpenSpec.upto peerTakesSpec)) peerTakesUptoCard
end Rows
end Go.Proofs.YtcaakiaenfkeaaaGreatDoor
