/-
  DERIVED. GIVEN WITH THE SEED: THE CARDS: each row of YtdphpillcaajpaaDoorRows.lean that lists a variable, with what it lists TIED to the program's text (the seventh form; the later family's looks); each row that meets fmt, with fmt's text TOLD by the authors' own Lean function (tested against real Go, not proved from fmt's source: count such statements apart). THE CARD IS WHAT COUNTS. Prove the row's statement (the work); the ties are given (YtdphpillcaajpaaDoorTie.lean); close each card by the builder's one call (the guide's Derived/Test/ToyasCard.lean, 'card_holds'). Laid BY PROGRAM, IN A SANDBOX (cutbox-door.mjs). By AI agents, Wed Nov 11 2026. No macro, syntax, notation, axiom, sorry.
-/
import Derived.Test.YtdphpillcaajpaaDoorRows
import GoSem.ClaimSeven
namespace Go.Proofs.YtdphpillcaajpaaDoor
namespace Rows

/-- THE TIED CARD OF 'warrenlaw23.JsonNames'. -/
def jsonNamesCard : Claim7 := { stood := { row := jsonNamesRow, standIns := [], harness := (true, "37231c767ead11a11195e285b695ebbd69b6501d16f35ebd10c41484ebfab96b"), looks := true }, kinds := [], alts := [], laidByText := true, laidKinds := [.data, .data, .data, .data, .sentinel, .sentinel, .pinned], laidTests := true, laidLooks := .later }
def JsonNamesCardSaid : Prop := Claim7.holds Tryd.pinned (.plain (OpenSpec.ofChange jsonNamesSpec)) jsonNamesCard

/-- THE TIED CARD OF 'warrenlaw23.JsonThere'. -/
def jsonThereCard : Claim7 := { stood := { row := jsonThereRow, standIns := [], harness := (true, "37231c767ead11a11195e285b695ebbd69b6501d16f35ebd10c41484ebfab96b"), looks := true }, kinds := [], alts := [], laidByText := true, laidKinds := [.data, .data, .data, .data, .sentinel, .sentinel, .pinned], laidTests := true, laidLooks := .later }
def JsonThereCardSaid : Prop := Claim7.holds Tryd.pinned (.plain (OpenSpec.ofChange jsonThereSpec)) jsonThereCard

/-- THE TIED CARD OF 'warrenlaw23.JsonBack'. -/
def jsonBackCard : Claim7 := { stood := { row := jsonBackRow, standIns := [], harness := (true, "37231c767ead11a11195e285b695ebbd69b6501d16f35ebd10c41484ebfab96b"), looks := true }, kinds := [], alts := [], laidByText := true, laidKinds := [.data, .data, .data, .data, .sentinel, .sentinel, .pinned], laidTests := true, laidLooks := .later }
def JsonBackCardSaid : Prop := Claim7.holds Tryd.pinned (.plain (OpenSpec.ofChange jsonBackSpec)) jsonBackCard

/-- THE TIED CARD OF 'warrenlaw23.JsonParts'. -/
def jsonPartsCard : Claim7 := { stood := { row := jsonPartsRow, standIns := [], harness := (true, "37231c767ead11a11195e285b695ebbd69b6501d16f35ebd10c41484ebfab96b"), looks := true }, kinds := [], alts := [], laidByText := true, laidKinds := [.data, .data, .data, .data, .sentinel, .sentinel, .pinned], laidTests := true, laidLooks := .later }
def JsonPartsCardSaid : Prop := Claim7.holds Tryd.pinned (.plain (OpenSpec.ofChange jsonPartsSpec)) jsonPartsCard

/-- THE SECOND FORM's CARD OF 'warrenlaw23.JsonNames'. -/
def jsonNamesUptoCard : Claim7 := { stood := { row := jsonNamesUptoRow, standIns := [], harness := (true, "37231c767ead11a11195e285b695ebbd69b6501d16f35ebd10c41484ebfab96b"), looks := true }, kinds := [], alts := [], laidByText := true, laidKinds := [.data, .data, .data, .data, .sentinel, .sentinel, .pinned], laidTests := true, laidLooks := .later }
def JsonNamesUptoCardSaid : Prop := Claim7.holds Tryd.pinned (.plain (OpenSpec.upto jsonNamesSpec)) jsonNamesUptoCard

/-- THE SECOND FORM's CARD OF 'warrenlaw23.JsonThere'. -/
def jsonThereUptoCard : Claim7 := { stood := { row := jsonThereUptoRow, standIns := [], harness := (true, "37231c767ead11a11195e285b695ebbd69b6501d16f35ebd10c41484ebfab96b"), looks := true }, kinds := [], alts := [], laidByText := true, laidKinds := [.data, .data, .data, .data, .sentinel, .sentinel, .pinned], laidTests := true, laidLooks := .later }
def JsonThereUptoCardSaid : Prop := Claim7.holds Tryd.pinned (.plain (OpenSpec.upto jsonThereSpec)) jsonThereUptoCard

/-- THE SECOND FORM's CARD OF 'warrenlaw23.JsonBack'. -/
def jsonBackUptoCard : Claim7 := { stood := { row := jsonBackUptoRow, standIns := [], harness := (true, "37231c767ead11a11195e285b695ebbd69b6501d16f35ebd10c41484ebfab96b"), looks := true }, kinds := [], alts := [], laidByText := true, laidKinds := [.data, .data, .data, .data, .sentinel, .sentinel, .pinned], laidTests := true, laidLooks := .later }
def JsonBackUptoCardSaid : Prop := Claim7.holds Tryd.pinned (.plain (OpenSpec.upto jsonBackSpec)) jsonBackUptoCard

/-- THE SECOND FORM's CARD OF 'warrenlaw23.JsonParts'. -/
def jsonPartsUptoCard : Claim7 := { stood := { row := jsonPartsUptoRow, standIns := [], harness := (true, "37231c767ead11a11195e285b695ebbd69b6501d16f35ebd10c41484ebfab96b"), looks := true }, kinds := [], alts := [], laidByText := true, laidKinds := [.data, .data, .data, .data, .sentinel, .sentinel, .pinned], laidTests := true, laidLooks := .later }
def JsonPartsUptoCardSaid : Prop := Claim7.holds Tryd.pinned (.plain (OpenSpec.upto jsonPartsSpec)) jsonPartsUptoCard
end Rows
end Go.Proofs.YtdphpillcaajpaaDoor
