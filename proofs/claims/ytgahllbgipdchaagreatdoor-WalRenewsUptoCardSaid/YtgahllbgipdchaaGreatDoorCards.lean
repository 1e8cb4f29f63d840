/-
  DERIVED. GIVEN WITH THE SEED: THE CARDS: each row of YtgahllbgipdchaaGreatDoorRows.lean that lists a variable, with what it lists TIED to the program's text (the seventh form; the later family's looks); each row that meets fmt, with fmt's text TOLD by the authors' own Lean function (tested against real Go, not proved from fmt's source: count such statements apart). THE CARD IS WHAT COUNTS. Prove the row's statement (the work); the ties are given (YtgahllbgipdchaaGreatDoorTie.lean); close each card by the builder's one call (the guide's Derived/Test/ToyasCard.lean, 'card_holds'). Laid BY PROGRAM, IN A SANDBOX (cutbox-door.mjs). By AI agents, Wed Nov 11 2026. No macro, syntax, notation, axiom, sorry.
-/
import Derived.Test.YtgahllbgipdchaaGreatDoorRows
import GoSem.ClaimSeven
namespace Go.Proofs.YtgahllbgipdchaaGreatDoor
namespace Rows

/-- THE TIED CARD OF 'warrenlaw12.WalOpens'. -/
def walOpensCard : Claim7 := { stood := { row := walOpensRow, standIns := [], harness := (true, "f41a97921293c797b660bb598893beb94f3d88d24ac3a975f1061e904e6fd54e"), looks := true }, kinds := [], alts := [], laidByText := true, laidKinds := [.data, .data, .data, .sentinel, .sentinel, .data], laidTests := true, laidLooks := .later }
def WalOpensCardSaid : Prop := Claim7.holds Tryz.pinned (.plain (OpenSpec.ofChange walOpensSpec)) walOpensCard

/-- THE TIED CARD OF 'warrenlaw12.WalKeeps'. -/
def walKeepsCard : Claim7 := { stood := { row := walKeepsRow, standIns := [], harness := (true, "f41a97921293c797b660bb598893beb94f3d88d24ac3a975f1061e904e6fd54e"), looks := true }, kinds := [], alts := [], laidByText := true, laidKinds := [.data, .data, .data, .sentinel, .sentinel, .data], laidTests := true, laidLooks := .later }
def WalKeepsCardSaid : Prop := Claim7.holds Tryz.pinned (.plain (OpenSpec.ofChange walKeepsSpec)) walKeepsCard

/-- THE TIED CARD OF 'warrenlaw12.WalRenews'. -/
def walRenewsCard : Claim7 := { stood := { row := walRenewsRow, standIns := [], harness := (true, "f41a97921293c797b660bb598893beb94f3d88d24ac3a975f1061e904e6fd54e"), looks := true }, kinds := [], alts := [], laidByText := true, laidKinds := [.data, .data, .data, .sentinel, .sentinel, .data], laidTests := true, laidLooks := .later }
def WalRenewsCardSaid : Prop := Claim7.holds Tryz.pinned (.plain (OpenSpec.ofChange walRenewsSpec)) walRenewsCard

/-- THE TIED CARD OF 'warrenlaw12.WalTwice'. -/
def walTwiceCard : Claim7 := { stood := { row := walTwiceRow, standIns := [], harness := (true, "f41a97921293c797b660bb598893beb94f3d88d24ac3a975f1061e904e6fd54e"), looks := true }, kinds := [], alts := [], laidByText := true, laidKinds := [.data, .data, .data, .sentinel, .sentinel, .data], laidTests := true, laidLooks := .later }
def WalTwiceCardSaid : Prop := Claim7.holds Tryz.pinned (.plain (OpenSpec.ofChange walTwiceSpec)) walTwiceCard

/-- THE SECOND FORM's CARD OF 'warrenlaw12.WalOpens'. -/
def walOpensUptoCard : Claim7 := { stood := { row := walOpensUptoRow, standIns := [], harness := (true, "f41a97921293c797b660bb598893beb94f3d88d24ac3a975f1061e904e6fd54e"), looks := true }, kinds := [], alts := [], laidByText := true, laidKinds := [.data, .data, .data, .sentinel, .sentinel, .data], laidTests := true, laidLooks := .later }
def WalOpensUptoCardSaid : Prop := Claim7.holds Tryz.pinned (.plain (OpenSpec.upto walOpensSpec)) walOpensUptoCard

/-- THE SECOND FORM's CARD OF 'warrenlaw12.WalKeeps'. -/
def walKeepsUptoCard : Claim7 := { stood := { row := walKeepsUptoRow, standIns := [], harness := (true, "f41a97921293c797b660bb598893beb94f3d88d24ac3a975f1061e904e6fd54e"), looks := true }, kinds := [], alts := [], laidByText := true, laidKinds := [.data, .data, .data, .sentinel, .sentinel, .data], laidTests := true, laidLooks := .later }
def WalKeepsUptoCardSaid : Prop := Claim7.holds Tryz.pinned (.plain (OpenSpec.upto walKeepsSpec)) walKeepsUptoCard

/-- THE SECOND FORM's CARD OF 'warrenlaw12.WalRenews'. -/
def walRenewsUptoCard : Claim7 := { stood := { row := walRenewsUptoRow, standIns := [], harness := (true, "f41a97921293c797b660bb598893beb94f3d88d24ac3a975f1061e904e6fd54e"), looks := true }, kinds := [], alts := [], laidByText := true, laidKinds := [.data, .data, .data, .sentinel, .sentinel, .data], laidTests := true, laidLooks := .later }
def WalRenewsUptoCardSaid : Prop := Claim7.holds Tryz.pinned (.plain (OpenSpec.upto walRenewsSpec)) walRenewsUptoCard

/-- THE SECOND FORM's CARD OF 'warrenlaw12.WalTwice'. -/
def walTwiceUptoCard : Claim7 := { stood := { row := walTwiceUptoRow, standIns := [], harness := (true, "f41a97921293c797b660bb598893beb94f3d88d24ac3a975f1061e904e6fd54e"), looks := true }, kinds := [], alts := [], laidByText := true, laidKinds := [.data, .data, .data, .sentinel, .sentinel, .data], laidTests := true, laidLooks := .later }
def WalTwiceUptoCardSaid : Prop := Claim7.holds Tryz.pinned (.plain (OpenSpec.upto walTwiceSpec)) walTwiceUptoCard
end Rows
end Go.Proofs.YtgahllbgipdchaaGreatDoor
