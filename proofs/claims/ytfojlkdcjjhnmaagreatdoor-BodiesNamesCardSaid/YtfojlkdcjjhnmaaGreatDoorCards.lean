/-
  DERIVED. GIVEN WITH THE SEED: THE CARDS: each row of YtfojlkdcjjhnmaaGreatDoorRows.lean that lists a variable, with what it lists TIED to the program's text (the seventh form; the later family's looks); each row that meets fmt, with fmt's text TOLD by the authors' own Lean function (tested against real Go, not proved from fmt's source: count such statements apart). THE CARD IS WHAT COUNTS. Prove the row's statement (the work); the ties are given (YtfojlkdcjjhnmaaGreatDoorTie.lean); close each card by the builder's one call (the guide's Derived/Test/ToyasCard.lean, 'card_holds'). Laid BY PROGRAM, IN A SANDBOX (cutbox-door.mjs). By AI agents, Wed Nov 11 2026. No macro, syntax, notation, axiom, sorry.
-/
import Derived.Test.YtfojlkdcjjhnmaaGreatDoorRows
import GoSem.ClaimSeven
namespace Go.Proofs.YtfojlkdcjjhnmaaGreatDoor
namespace Rows

/-- THE TIED CARD OF 'warrenlaw14.BodiesNames'. -/
def bodiesNamesCard : Claim7 := { stood := { row := bodiesNamesRow, standIns := [], harness := (true, "6fc0f1f66493da3df72b214d3b879028efb2602a5d6b0b32e829a960bfedb4ce"), looks := true }, kinds := [], alts := [], laidByText := true, laidKinds := [.data, .data, .data, .sentinel, .sentinel, .data], laidTests := true, laidLooks := .later }
def BodiesNamesCardSaid : Prop := Claim7.holds Tryz.pinned (.plain (OpenSpec.ofChange bodiesNamesSpec)) bodiesNamesCard

/-- THE TIED CARD OF 'warrenlaw14.BodiesShared'. -/
def bodiesSharedCard : Claim7 := { stood := { row := bodiesSharedRow, standIns := [], harness := (true, "6fc0f1f66493da3df72b214d3b879028efb2602a5d6b0b32e829a960bfedb4ce"), looks := true }, kinds := [], alts := [], laidByText := true, laidKinds := [.data, .data, .data, .sentinel, .sentinel, .data], laidTests := true, laidLooks := .later }
def BodiesSharedCardSaid : Prop := Claim7.holds Tryz.pinned (.plain (OpenSpec.ofChange bodiesSharedSpec)) bodiesSharedCard

/-- THE TIED CARD OF 'warrenlaw14.BodiesFull'. -/
def bodiesFullCard : Claim7 := { stood := { row := bodiesFullRow, standIns := [], harness := (true, "6fc0f1f66493da3df72b214d3b879028efb2602a5d6b0b32e829a960bfedb4ce"), looks := true }, kinds := [], alts := [], laidByText := true, laidKinds := [.data, .data, .data, .sentinel, .sentinel, .data], laidTests := true, laidLooks := .later }
def BodiesFullCardSaid : Prop := Claim7.holds Tryz.pinned (.plain (OpenSpec.ofChange bodiesFullSpec)) bodiesFullCard

/-- THE TIED CARD OF 'warrenlaw14.BodiesPlays'. -/
def bodiesPlaysCard : Claim7 := { stood := { row := bodiesPlaysRow, standIns := [], harness := (true, "6fc0f1f66493da3df72b214d3b879028efb2602a5d6b0b32e829a960bfedb4ce"), looks := true }, kinds := [], alts := [], laidByText := true, laidKinds := [.data, .data, .data, .sentinel, .sentinel, .data], laidTests := true, laidLooks := .later }
def BodiesPlaysCardSaid : Prop := Claim7.holds Tryz.pinned (.plain (OpenSpec.ofChange bodiesPlaysSpec)) bodiesPlaysCard

/-- THE SECOND FORM's CARD OF 'warrenlaw14.BodiesNames'. -/
def bodiesNamesUptoCard : Claim7 := { stood := { row := bodiesNamesUptoRow, standIns := [], harness := (true, "6fc0f1f66493da3df72b214d3b879028efb2602a5d6b0b32e829a960bfedb4ce"), looks := true }, kinds := [], alts := [], laidByText := true, laidKinds := [.data, .data, .data, .sentinel, .sentinel, .data], laidTests := true, laidLooks := .later }
def BodiesNamesUptoCardSaid : Prop := Claim7.holds Tryz.pinned (.plain (OpenSpec.upto bodiesNamesSpec)) bodiesNamesUptoCard

/-- THE SECOND FORM's CARD OF 'warrenlaw14.BodiesShared'. -/
def bodiesSharedUptoCard : Claim7 := { stood := { row := bodiesSharedUptoRow, standIns := [], harness := (true, "6fc0f1f66493da3df72b214d3b879028efb2602a5d6b0b32e829a960bfedb4ce"), looks := true }, kinds := [], alts := [], laidByText := true, laidKinds := [.data, .data, .data, .sentinel, .sentinel, .data], laidTests := true, laidLooks := .later }
def BodiesSharedUptoCardSaid : Prop := Claim7.holds Tryz.pinned (.plain (OpenSpec.upto bodiesSharedSpec)) bodiesSharedUptoCard

/-- THE SECOND FORM's CARD OF 'warrenlaw14.BodiesFull'. -/
def bodiesFullUptoCard : Claim7 := { stood := { row := bodiesFullUptoRow, standIns := [], harness := (true, "6fc0f1f66493da3df72b214d3b879028efb2602a5d6b0b32e829a960bfedb4ce"), looks := true }, kinds := [], alts := [], laidByText := true, laidKinds := [.data, .data, .data, .sentinel, .sentinel, .data], laidTests := true, laidLooks := .later }
def BodiesFullUptoCardSaid : Prop := Claim7.holds Tryz.pinned (.plain (OpenSpec.upto bodiesFullSpec)) bodiesFullUptoCard

/-- THE SECOND FORM's CARD OF 'warrenlaw14.BodiesPlays'. -/
def bodiesPlaysUptoCard : Claim7 := { stood := { row := bodiesPlaysUptoRow, standIns := [], harness := (true, "6fc0f1f66493da3df72b214d3b879028efb2602a5d6b0b32e829a960bfedb4ce"), looks := true }, kinds := [], alts := [], laidByText := true, laidKinds := [.data, .data, .data, .sentinel, .sentinel, .data], laidTests := true, laidLooks := .later }
def BodiesPlaysUptoCardSaid : Prop := Claim7.holds Tryz.pinned (.plain (OpenSpec.upto bodiesPlaysSpec)) bodiesPlaysUptoCard
end Rows
end Go.Proofs.YtfojlkdcjjhnmaaGreatDoor
