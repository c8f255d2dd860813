/-
  DERIVED. GIVEN WITH THE SEED: THE CARDS: each row of YtfklihbkflblmaaGreatDoorRows.lean that lists a variable, with what it lists TIED to the program's text (the seventh form; the later family's looks); each row that meets fmt, with fmt's text TOLD by the authors' own Lean function (tested against real Go, not proved from fmt's source: count such statements apart). THE CARD IS WHAT COUNTS. Prove the row's statement (the work); the ties are given (YtfklihbkflblmaaGreatDoorTie.lean); close each card by the builder's one call (the guide's Derived/Test/ToyasCard.lean, 'card_holds'). Laid BY PROGRAM, IN A SANDBOX (cutbox-door.mjs). By AI agents, Wed Nov 11 2026. No macro, syntax, notation, axiom, sorry.
-/
import Derived.Test.YtfklihbkflblmaaGreatDoorRows
import GoSem.ClaimSeven
namespace Go.Proofs.YtfklihbkflblmaaGreatDoor
namespace Rows

/-- THE TIED CARD OF 'sedimentlaw21.StoreGets'. -/
def storeGetsCard : Claim7 := { stood := { row := storeGetsRow, standIns := [], harness := (true, "b39ca57e2ab669651f6ff0ba6f15d613217dbb6f098d3d827e29c4a2443a4c5c"), looks := true }, kinds := [], alts := [], laidByText := true, laidKinds := [.data, .data, .data, .data], laidTests := true, laidLooks := .later }
def StoreGetsCardSaid : Prop := Claim7.holds Tryz.pinned (.plain (OpenSpec.ofChange storeGetsSpec)) storeGetsCard

/-- THE TIED CARD OF 'sedimentlaw21.StorePins'. -/
def storePinsCard : Claim7 := { stood := { row := storePinsRow, standIns := [], harness := (true, "b39ca57e2ab669651f6ff0ba6f15d613217dbb6f098d3d827e29c4a2443a4c5c"), looks := true }, kinds := [], alts := [], laidByText := true, laidKinds := [.data, .data, .data, .data], laidTests := true, laidLooks := .later }
def StorePinsCardSaid : Prop := Claim7.holds Tryz.pinned (.plain (OpenSpec.ofChange storePinsSpec)) storePinsCard

/-- THE TIED CARD OF 'sedimentlaw21.StoreClosed'. -/
def storeClosedCard : Claim7 := { stood := { row := storeClosedRow, standIns := [], harness := (true, "b39ca57e2ab669651f6ff0ba6f15d613217dbb6f098d3d827e29c4a2443a4c5c"), looks := true }, kinds := [], alts := [], laidByText := true, laidKinds := [.data, .data, .data, .data], laidTests := true, laidLooks := .later }
def StoreClosedCardSaid : Prop := Claim7.holds Tryz.pinned (.plain (OpenSpec.ofChange storeClosedSpec)) storeClosedCard

/-- THE TIED CARD OF 'sedimentlaw21.StoreNone'. -/
def storeNoneCard : Claim7 := { stood := { row := storeNoneRow, standIns := [], harness := (true, "b39ca57e2ab669651f6ff0ba6f15d613217dbb6f098d3d827e29c4a2443a4c5c"), looks := true }, kinds := [], alts := [], laidByText := true, laidKinds := [.data, .data, .data, .data], laidTests := true, laidLooks := .later }
def StoreNoneCardSaid : Prop := Claim7.holds Tryz.pinned (.plain (OpenSpec.ofChange storeNoneSpec)) storeNoneCard

/-- THE SECOND FORM's CARD OF 'sedimentlaw21.StoreGets'. -/
def storeGetsUptoCard : Claim7 := { stood := { row := storeGetsUptoRow, standIns := [], harness := (true, "b39ca57e2ab669651f6ff0ba6f15d613217dbb6f098d3d827e29c4a2443a4c5c"), looks := true }, kinds := [], alts := [], laidByText := true, laidKinds := [.data, .data, .data, .data], laidTests := true, laidLooks := .later }
def StoreGetsUptoCardSaid : Prop := Claim7.holds Tryz.pinned (.plain (OpenSpec.upto storeGetsSpec)) storeGetsUptoCard

/-- THE SECOND FORM's CARD OF 'sedimentlaw21.StorePins'. -/
def storePinsUptoCard : Claim7 := { stood := { row := storePinsUptoRow, standIns := [], harness := (true, "b39ca57e2ab669651f6ff0ba6f15d613217dbb6f098d3d827e29c4a2443a4c5c"), looks := true }, kinds := [], alts := [], laidByText := true, laidKinds := [.data, .data, .data, .data], laidTests := true, laidLooks := .later }
def StorePinsUptoCardSaid : Prop := Claim7.holds Tryz.pinned (.plain (OpenSpec.upto storePinsSpec)) storePinsUptoCard

/-- THE SECOND FORM's CARD OF 'sedimentlaw21.StoreClosed'. -/
def storeClosedUptoCard : Claim7 := { stood := { row := storeClosedUptoRow, standIns := [], harness := (true, "b39ca57e2ab669651f6ff0ba6f15d613217dbb6f098d3d827e29c4a2443a4c5c"), looks := true }, kinds := [], alts := [], laidByText := true, laidKinds := [.data, .data, .data, .data], laidTests := true, laidLooks := .later }
def StoreClosedUptoCardSaid : Prop := Claim7.holds Tryz.pinned (.plain (OpenSpec.upto storeClosedSpec)) storeClosedUptoCard

/-- THE SECOND FORM's CARD OF 'sedimentlaw21.StoreNone'. -/
def storeNoneUptoCard : Claim7 := { stood := { row := storeNoneUptoRow, standIns := [], harness := (true, "b39ca57e2ab669651f6ff0ba6f15d613217dbb6f098d3d827e29c4a2443a4c5c"), looks := true }, kinds := [], alts := [], laidByText := true, laidKinds := [.data, .data, .data, .data], laidTests := true, laidLooks := .later }
def StoreNoneUptoCardSaid : Prop := Claim7.holds Tryz.pinned (.plain (OpenSpec.upto storeNoneSpec)) storeNoneUptoCard
end Rows
end Go.Proofs.YtfklihbkflblmaaGreatDoor
