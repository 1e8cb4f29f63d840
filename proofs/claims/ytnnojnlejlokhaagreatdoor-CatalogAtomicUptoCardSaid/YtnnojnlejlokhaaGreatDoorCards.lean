/-
  DERIVED. GIVEN WITH THE SEED: THE CARDS: each row of YtnnojnlejlokhaaGreatDoorRows.lean that lists a variable, with what it lists TIED to the program's text (the seventh form; the later family's looks); each row that meets fmt, with fmt's text TOLD by the authors' own Lean function (tested against real Go, not proved from fmt's source: count such statements apart). THE CARD IS WHAT COUNTS. Prove the row's statement (the work); the ties are given (YtnnojnlejlokhaaGreatDoorTie.lean); close each card by the builder's one call (the guide's Derived/Test/ToyasCard.lean, 'card_holds'). Laid BY PROGRAM, IN A SANDBOX (cutbox-door.mjs). By AI agents, Wed Nov 11 2026. No macro, syntax, notation, axiom, sorry.
-/
import Derived.Test.YtnnojnlejlokhaaGreatDoorRows
import GoSem.ClaimSeven
namespace Go.Proofs.YtnnojnlejlokhaaGreatDoor
namespace Rows

/-- THE TIED CARD OF 'warrenlaw13.CatalogNames'. -/
def catalogNamesCard : Claim7 := { stood := { row := catalogNamesRow, standIns := [], harness := (true, "9e4f0c1761517fca194e06add79a16542dac82bd007677be993cb1d5430cbd81"), looks := true }, kinds := [], alts := [], laidByText := true, laidKinds := [.data, .data, .data, .sentinel, .sentinel, .data], laidTests := true, laidLooks := .later }
def CatalogNamesCardSaid : Prop := Claim7.holds Tryz.pinned (.plain (OpenSpec.ofChange catalogNamesSpec)) catalogNamesCard

/-- THE TIED CARD OF 'warrenlaw13.CatalogOrder'. -/
def catalogOrderCard : Claim7 := { stood := { row := catalogOrderRow, standIns := [], harness := (true, "9e4f0c1761517fca194e06add79a16542dac82bd007677be993cb1d5430cbd81"), looks := true }, kinds := [], alts := [], laidByText := true, laidKinds := [.data, .data, .data, .sentinel, .sentinel, .data], laidTests := true, laidLooks := .later }
def CatalogOrderCardSaid : Prop := Claim7.holds Tryz.pinned (.plain (OpenSpec.ofChange catalogOrderSpec)) catalogOrderCard

/-- THE TIED CARD OF 'warrenlaw13.CatalogAtomic'. -/
def catalogAtomicCard : Claim7 := { stood := { row := catalogAtomicRow, standIns := [], harness := (true, "9e4f0c1761517fca194e06add79a16542dac82bd007677be993cb1d5430cbd81"), looks := true }, kinds := [], alts := [], laidByText := true, laidKinds := [.data, .data, .data, .sentinel, .sentinel, .data], laidTests := true, laidLooks := .later }
def CatalogAtomicCardSaid : Prop := Claim7.holds Tryz.pinned (.plain (OpenSpec.ofChange catalogAtomicSpec)) catalogAtomicCard

/-- THE TIED CARD OF 'warrenlaw13.CatalogPlays'. -/
def catalogPlaysCard : Claim7 := { stood := { row := catalogPlaysRow, standIns := [], harness := (true, "9e4f0c1761517fca194e06add79a16542dac82bd007677be993cb1d5430cbd81"), looks := true }, kinds := [], alts := [], laidByText := true, laidKinds := [.data, .data, .data, .sentinel, .sentinel, .data], laidTests := true, laidLooks := .later }
def CatalogPlaysCardSaid : Prop := Claim7.holds Tryz.pinned (.plain (OpenSpec.ofChange catalogPlaysSpec)) catalogPlaysCard

/-- THE SECOND FORM's CARD OF 'warrenlaw13.CatalogNames'. -/
def catalogNamesUptoCard : Claim7 := { stood := { row := catalogNamesUptoRow, standIns := [], harness := (true, "9e4f0c1761517fca194e06add79a16542dac82bd007677be993cb1d5430cbd81"), looks := true }, kinds := [], alts := [], laidByText := true, laidKinds := [.data, .data, .data, .sentinel, .sentinel, .data], laidTests := true, laidLooks := .later }
def CatalogNamesUptoCardSaid : Prop := Claim7.holds Tryz.pinned (.plain (OpenSpec.upto catalogNamesSpec)) catalogNamesUptoCard

/-- THE SECOND FORM's CARD OF 'warrenlaw13.CatalogOrder'. -/
def catalogOrderUptoCard : Claim7 := { stood := { row := catalogOrderUptoRow, standIns := [], harness := (true, "9e4f0c1761517fca194e06add79a16542dac82bd007677be993cb1d5430cbd81"), looks := true }, kinds := [], alts := [], laidByText := true, laidKinds := [.data, .data, .data, .sentinel, .sentinel, .data], laidTests := true, laidLooks := .later }
def CatalogOrderUptoCardSaid : Prop := Claim7.holds Tryz.pinned (.plain (OpenSpec.upto catalogOrderSpec)) catalogOrderUptoCard

/-- THE SECOND FORM's CARD OF 'warrenlaw13.CatalogAtomic'. -/
def catalogAtomicUptoCard : Claim7 := { stood := { row := catalogAtomicUptoRow, standIns := [], harness := (true, "9e4f0c1761517fca194e06add79a16542dac82bd007677be993cb1d5430cbd81"), looks := true }, kinds := [], alts := [], laidByText := true, laidKinds := [.data, .data, .data, .sentinel, .sentinel, .data], laidTests := true, laidLooks := .later }
def CatalogAtomicUptoCardSaid : Prop := Claim7.holds Tryz.pinned (.plain (OpenSpec.upto catalogAtomicSpec)) catalogAtomicUptoCard

/-- THE SECOND FORM's CARD OF 'warrenlaw13.CatalogPlays'. -/
def catalogPlaysUptoCard : Claim7 := { stood := { row := catalogPlaysUptoRow, standIns := [], harness := (true, "9e4f0c1761517fca194e06add79a16542dac82bd007677be993cb1d5430cbd81"), looks := true }, kinds := [], alts := [], laidByText := true, laidKinds := [.data, .data, .data, .sentinel, .sentinel, .data], laidTests := true, laidLooks := .later }
def CatalogPlaysUptoCardSaid : Prop := Claim7.holds Tryz.pinned (.plain (OpenSpec.upto catalogPlaysSpec)) catalogPlaysUptoCard
end Rows
end Go.Proofs.YtnnojnlejlokhaaGreatDoor
