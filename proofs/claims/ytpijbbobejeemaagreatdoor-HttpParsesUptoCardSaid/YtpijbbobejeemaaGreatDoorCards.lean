/-
  DERIVED. GIVEN WITH THE SEED: THE CARDS: each row of YtpijbbobejeemaaGreatDoorRows.lean that lists a variable, with what it lists TIED to the program's text (the seventh form; the later family's looks); each row that meets fmt, with fmt's text TOLD by the authors' own Lean function (tested against real Go, not proved from fmt's source: count such statements apart). THE CARD IS WHAT COUNTS. Prove the row's statement (the work); the ties are given (YtpijbbobejeemaaGreatDoorTie.lean); close each card by the builder's one call (the guide's Derived/Test/ToyasCard.lean, 'card_holds'). Laid BY PROGRAM, IN A SANDBOX (cutbox-door.mjs). By AI agents, Wed Nov 11 2026. No macro, syntax, notation, axiom, sorry.
-/
import Derived.Test.YtpijbbobejeemaaGreatDoorRows
import GoSem.ClaimSeven
namespace Go.Proofs.YtpijbbobejeemaaGreatDoor
namespace Rows

/-- THE TIED CARD OF 'warrenlaw24.HttpParses'. -/
def httpParsesCard : Claim7 := { stood := { row := httpParsesRow, standIns := [], harness := (true, "e0fa224b0dd911af8870491583627715fa2fa0fefaab0b2e384bdff663f16dea"), looks := true }, kinds := [], alts := [], laidByText := true, laidKinds := [.data, .data, .data, .data, .sentinel, .sentinel, .pinned, .pinned], laidTests := true, laidLooks := .later }
def HttpParsesCardSaid : Prop := Claim7.holds Tryz.pinned (.plain (OpenSpec.ofChange httpParsesSpec)) httpParsesCard

/-- THE TIED CARD OF 'warrenlaw24.HttpPieces'. -/
def httpPiecesCard : Claim7 := { stood := { row := httpPiecesRow, standIns := [], harness := (true, "e0fa224b0dd911af8870491583627715fa2fa0fefaab0b2e384bdff663f16dea"), looks := true }, kinds := [], alts := [], laidByText := true, laidKinds := [.data, .data, .data, .data, .sentinel, .sentinel, .pinned, .pinned], laidTests := true, laidLooks := .later }
def HttpPiecesCardSaid : Prop := Claim7.holds Tryz.pinned (.plain (OpenSpec.ofChange httpPiecesSpec)) httpPiecesCard

/-- THE TIED CARD OF 'warrenlaw24.HttpResponds'. -/
def httpRespondsCard : Claim7 := { stood := { row := httpRespondsRow, standIns := [], harness := (true, "e0fa224b0dd911af8870491583627715fa2fa0fefaab0b2e384bdff663f16dea"), looks := true }, kinds := [], alts := [], laidByText := true, laidKinds := [.data, .data, .data, .data, .sentinel, .sentinel, .pinned, .pinned], laidTests := true, laidLooks := .later }
def HttpRespondsCardSaid : Prop := Claim7.holds Tryz.pinned (.plain (OpenSpec.ofChange httpRespondsSpec)) httpRespondsCard

/-- THE TIED CARD OF 'warrenlaw24.HttpLets'. -/
def httpLetsCard : Claim7 := { stood := { row := httpLetsRow, standIns := [], harness := (true, "e0fa224b0dd911af8870491583627715fa2fa0fefaab0b2e384bdff663f16dea"), looks := true }, kinds := [], alts := [], laidByText := true, laidKinds := [.data, .data, .data, .data, .sentinel, .sentinel, .pinned, .pinned], laidTests := true, laidLooks := .later }
def HttpLetsCardSaid : Prop := Claim7.holds Tryz.pinned (.plain (OpenSpec.ofChange httpLetsSpec)) httpLetsCard

/-- THE TIED CARD OF 'warrenlaw24.HttpPaths'. -/
def httpPathsCard : Claim7 := { stood := { row := httpPathsRow, standIns := [], harness := (true, "e0fa224b0dd911af8870491583627715fa2fa0fefaab0b2e384bdff663f16dea"), looks := true }, kinds := [], alts := [], laidByText := true, laidKinds := [.data, .data, .data, .data, .sentinel, .sentinel, .pinned, .pinned], laidTests := true, laidLooks := .later }
def HttpPathsCardSaid : Prop := Claim7.holds Tryz.pinned (.plain (OpenSpec.ofChange httpPathsSpec)) httpPathsCard

/-- THE SECOND FORM's CARD OF 'warrenlaw24.HttpParses'. -/
def httpParsesUptoCard : Claim7 := { stood := { row := httpParsesUptoRow, standIns := [], harness := (true, "e0fa224b0dd911af8870491583627715fa2fa0fefaab0b2e384bdff663f16dea"), looks := true }, kinds := [], alts := [], laidByText := true, laidKinds := [.data, .data, .data, .data, .sentinel, .sentinel, .pinned, .pinned], laidTests := true, laidLooks := .later }
def HttpParsesUptoCardSaid : Prop := Claim7.holds Tryz.pinned (.plain (OpenSpec.upto httpParsesSpec)) httpParsesUptoCard

/-- THE SECOND FORM's CARD OF 'warrenlaw24.HttpPieces'. -/
def httpPiecesUptoCard : Claim7 := { stood := { row := httpPiecesUptoRow, standIns := [], harness := (true, "e0fa224b0dd911af8870491583627715fa2fa0fefaab0b2e384bdff663f16dea"), looks := true }, kinds := [], alts := [], laidByText := true, laidKinds := [.data, .data, .data, .data, .sentinel, .sentinel, .pinned, .pinned], laidTests := true, laidLooks := .later }
def HttpPiecesUptoCardSaid : Prop := Claim7.holds Tryz.pinned (.plain (OpenSpec.upto httpPiecesSpec)) httpPiecesUptoCard

/-- THE SECOND FORM's CARD OF 'warrenlaw24.HttpResponds'. -/
def httpRespondsUptoCard : Claim7 := { stood := { row := httpRespondsUptoRow, standIns := [], harness := (true, "e0fa224b0dd911af8870491583627715fa2fa0fefaab0b2e384bdff663f16dea"), looks := true }, kinds := [], alts := [], laidByText := true, laidKinds := [.data, .data, .data, .data, .sentinel, .sentinel, .pinned, .pinned], laidTests := true, laidLooks := .later }
def HttpRespondsUptoCardSaid : Prop := Claim7.holds Tryz.pinned (.plain (OpenSpec.upto httpRespondsSpec)) httpRespondsUptoCard

/-- THE SECOND FORM's CARD OF 'warrenlaw24.HttpLets'. -/
def httpLetsUptoCard : Claim7 := { stood := { row := httpLetsUptoRow, standIns := [], harness := (true, "e0fa224b0dd911af8870491583627715fa2fa0fefaab0b2e384bdff663f16dea"), looks := true }, kinds := [], alts := [], laidByText := true, laidKinds := [.data, .data, .data, .data, .sentinel, .sentinel, .pinned, .pinned], laidTests := true, laidLooks := .later }
def HttpLetsUptoCardSaid : Prop := Claim7.holds Tryz.pinned (.plain (OpenSpec.upto httpLetsSpec)) httpLetsUptoCard

/-- THE SECOND FORM's CARD OF 'warrenlaw24.HttpPaths'. -/
def httpPathsUptoCard : Claim7 := { stood := { row := httpPathsUptoRow, standIns := [], harness := (true, "e0fa224b0dd911af8870491583627715fa2fa0fefaab0b2e384bdff663f16dea"), looks := true }, kinds := [], alts := [], laidByText := true, laidKinds := [.data, .data, .data, .data, .sentinel, .sentinel, .pinned, .pinned], laidTests := true, laidLooks := .later }
def HttpPathsUptoCardSaid : Prop := Claim7.holds Tryz.pinned (.plain (OpenSpec.upto httpPathsSpec)) httpPathsUptoCard
end Rows
end Go.Proofs.YtpijbbobejeemaaGreatDoor
