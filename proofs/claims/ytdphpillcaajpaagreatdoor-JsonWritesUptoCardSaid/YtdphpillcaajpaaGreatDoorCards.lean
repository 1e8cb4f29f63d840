/-
  DERIVED. GIVEN WITH THE SEED: THE CARDS: each row of YtdphpillcaajpaaGreatDoorRows.lean that lists a variable, with what it lists TIED to the program's text (the seventh form; the later family's looks); each row that meets fmt, with fmt's text TOLD by the authors' own Lean function (tested against real Go, not proved from fmt's source: count such statements apart). THE CARD IS WHAT COUNTS. Prove the row's statement (the work); the ties are given (YtdphpillcaajpaaGreatDoorTie.lean); close each card by the builder's one call (the guide's Derived/Test/ToyasCard.lean, 'card_holds'). Laid BY PROGRAM, IN A SANDBOX (cutbox-door.mjs). By AI agents, Wed Nov 11 2026. No macro, syntax, notation, axiom, sorry.
-/
import Derived.Test.YtdphpillcaajpaaGreatDoorRows
import GoSem.ClaimSeven
namespace Go.Proofs.YtdphpillcaajpaaGreatDoor
namespace Rows

/-- THE TIED CARD OF 'warrenlaw23.JsonWrites'. -/
def jsonWritesCard : Claim7 := { stood := { row := jsonWritesRow, standIns := [], harness := (true, "1b31d06d812495a4c5a88aecf4b32e14a894e78b3cefdf060a445b28b4d314ea"), looks := true }, kinds := [], alts := [], laidByText := true, laidKinds := [.data, .data, .data, .data, .sentinel, .sentinel, .pinned], laidTests := true, laidLooks := .later }
def JsonWritesCardSaid : Prop := Claim7.holds Tryz.pinned (.plain (OpenSpec.ofChange jsonWritesSpec)) jsonWritesCard

/-- THE TIED CARD OF 'warrenlaw23.JsonParses'. -/
def jsonParsesCard : Claim7 := { stood := { row := jsonParsesRow, standIns := [], harness := (true, "1b31d06d812495a4c5a88aecf4b32e14a894e78b3cefdf060a445b28b4d314ea"), looks := true }, kinds := [], alts := [], laidByText := true, laidKinds := [.data, .data, .data, .data, .sentinel, .sentinel, .pinned], laidTests := true, laidLooks := .later }
def JsonParsesCardSaid : Prop := Claim7.holds Tryz.pinned (.plain (OpenSpec.ofChange jsonParsesSpec)) jsonParsesCard

/-- THE SECOND FORM's CARD OF 'warrenlaw23.JsonWrites'. -/
def jsonWritesUptoCard : Claim7 := { stood := { row := jsonWritesUptoRow, standIns := [], harness := (true, "1b31d06d812495a4c5a88aecf4b32e14a894e78b3cefdf060a445b28b4d314ea"), looks := true }, kinds := [], alts := [], laidByText := true, laidKinds := [.data, .data, .data, .data, .sentinel, .sentinel, .pinned], laidTests := true, laidLooks := .later }
def JsonWritesUptoCardSaid : Prop := Claim7.holds Tryz.pinned (.plain (OpenSpec.upto jsonWritesSpec)) jsonWritesUptoCard

/-- THE SECOND FORM's CARD OF 'warrenlaw23.JsonParses'. -/
def jsonParsesUptoCard : Claim7 := { stood := { row := jsonParsesUptoRow, standIns := [], harness := (true, "1b31d06d812495a4c5a88aecf4b32e14a894e78b3cefdf060a445b28b4d314ea"), looks := true }, kinds := [], alts := [], laidByText := true, laidKinds := [.data, .data, .data, .data, .sentinel, .sentinel, .pinned], laidTests := true, laidLooks := .later }
def JsonParsesUptoCardSaid : Prop := Claim7.holds Tryz.pinned (.plain (OpenSpec.upto jsonParsesSpec)) jsonParsesUptoCard
end Rows
end Go.Proofs.YtdphpillcaajpaaGreatDoor
