/-
  DERIVED. GIVEN WITH THE SEED: THE CARDS: each row of YtodaakiodpdncaaGreatDoorRows.lean that lists a variable, with what it lists TIED to the program's text (the seventh form; the later family's looks); each row that meets fmt, with fmt's text TOLD by the authors' own Lean function (tested against real Go, not proved from fmt's source: count such statements apart). THE CARD IS WHAT COUNTS. Prove the row's statement (the work); the ties are given (YtodaakiodpdncaaGreatDoorTie.lean); close each card by the builder's one call (the guide's Derived/Test/ToyasCard.lean, 'card_holds'). Laid BY PROGRAM, IN A SANDBOX (cutbox-door.mjs). By AI agents, Wed Nov 11 2026. No macro, syntax, notation, axiom, sorry.
-/
import Derived.Test.YtodaakiodpdncaaGreatDoorRows
import GoSem.ClaimSeven
namespace Go.Proofs.YtodaakiodpdncaaGreatDoor
namespace Rows

/-- THE TIED CARD OF 'warrenlaw16.RouterNames'. -/
def routerNamesCard : Claim7 := { stood := { row := routerNamesRow, standIns := [], harness := (true, "5a9e33df672371ef93c50a7781f42a07e1e01e505a664abc63a707e2d7141476"), looks := false }, kinds := [], alts := [], laidByText := true, laidKinds := [.data, .pinned], laidTests := true, laidLooks := .later }
def RouterNamesCardSaid : Prop := Claim7.holds Tryz.pinned (.plain (OpenSpec.ofChange routerNamesSpec)) routerNamesCard

/-- THE TIED CARD OF 'warrenlaw16.RouterCycles'. -/
def routerCyclesCard : Claim7 := { stood := { row := routerCyclesRow, standIns := [], harness := (true, "5a9e33df672371ef93c50a7781f42a07e1e01e505a664abc63a707e2d7141476"), looks := false }, kinds := [], alts := [], laidByText := true, laidKinds := [.data, .pinned], laidTests := true, laidLooks := .later }
def RouterCyclesCardSaid : Prop := Claim7.holds Tryz.pinned (.plain (OpenSpec.ofChange routerCyclesSpec)) routerCyclesCard

/-- THE TIED CARD OF 'warrenlaw16.RouterPlays'. -/
def routerPlaysCard : Claim7 := { stood := { row := routerPlaysRow, standIns := [], harness := (true, "5a9e33df672371ef93c50a7781f42a07e1e01e505a664abc63a707e2d7141476"), looks := false }, kinds := [], alts := [], laidByText := true, laidKinds := [.data, .pinned], laidTests := true, laidLooks := .later }
def RouterPlaysCardSaid : Prop := Claim7.holds Tryz.pinned (.plain (OpenSpec.ofChange routerPlaysSpec)) routerPlaysCard

/-- THE TIED CARD OF 'warrenlaw16.RouterUndone'. -/
def routerUndoneCard : Claim7 := { stood := { row := routerUndoneRow, standIns := [], harness := (true, "5a9e33df672371ef93c50a7781f42a07e1e01e505a664abc63a707e2d7141476"), looks := false }, kinds := [], alts := [], laidByText := true, laidKinds := [.data, .pinned], laidTests := true, laidLooks := .later }
def RouterUndoneCardSaid : Prop := Claim7.holds Tryz.pinned (.plain (OpenSpec.ofChange routerUndoneSpec)) routerUndoneCard

/-- THE SECOND FORM's CARD OF 'warrenlaw16.RouterNames'. -/
def routerNamesUptoCard : Claim7 := { stood := { row := routerNamesUptoRow, standIns := [], harness := (true, "5a9e33df672371ef93c50a7781f42a07e1e01e505a664abc63a707e2d7141476"), looks := false }, kinds := [], alts := [], laidByText := true, laidKinds := [.data, .pinned], laidTests := true, laidLooks := .later }
def RouterNamesUptoCardSaid : Prop := Claim7.holds Tryz.pinned (.plain (OpenSpec.upto routerNamesSpec)) routerNamesUptoCard

/-- THE SECOND FORM's CARD OF 'warrenlaw16.RouterCycles'. -/
def routerCyclesUptoCard : Claim7 := { stood := { row := routerCyclesUptoRow, standIns := [], harness := (true, "5a9e33df672371ef93c50a7781f42a07e1e01e505a664abc63a707e2d7141476"), looks := false }, kinds := [], alts := [], laidByText := true, laidKinds := [.data, .pinned], laidTests := true, laidLooks := .later }
def RouterCyclesUptoCardSaid : Prop := Claim7.holds Tryz.pinned (.plain (OpenSpec.upto routerCyclesSpec)) routerCyclesUptoCard

/-- THE SECOND FORM's CARD OF 'warrenlaw16.RouterPlays'. -/
def routerPlaysUptoCard : Claim7 := { stood := { row := routerPlaysUptoRow, standIns := [], harness := (true, "5a9e33df672371ef93c50a7781f42a07e1e01e505a664abc63a707e2d7141476"), looks := false }, kinds := [], alts := [], laidByText := true, laidKinds := [.data, .pinned], laidTests := true, laidLooks := .later }
def RouterPlaysUptoCardSaid : Prop := Claim7.holds Tryz.pinned (.plain (OpenSpec.upto routerPlaysSpec)) routerPlaysUptoCard

/-- THE SECOND FORM's CARD OF 'warrenlaw16.RouterUndone'. -/
def routerUndoneUptoCard : Claim7 := { stood := { row := routerUndoneUptoRow, standIns := [], harness := (true, "5a9e33df672371ef93c50a7781f42a07e1e01e505a664abc63a707e2d7141476"), looks := false }, kinds := [], alts := [], laidByText := true, laidKinds := [.data, .pinned], laidTests := true, laidLooks := .later }
def RouterUndoneUptoCardSaid : Prop := Claim7.holds Tryz.pinned (.plain (OpenSpec.upto routerUndoneSpec)) routerUndoneUptoCard
end Rows
end Go.Proofs.YtodaakiodpdncaaGreatDoor
