/-
  DERIVED. GIVEN WITH THE SEED: THE CARDS: each row of YtbmoancedlbhlaaDoorRows.lean that lists a variable, with what it lists TIED to the program's text (the seventh form; the later family's looks); each row that meets fmt, with fmt's text TOLD by the authors' own Lean function (tested against real Go, not proved from fmt's source: count such statements apart). THE CARD IS WHAT COUNTS. Prove the row's statement (the work); the ties are given (YtbmoancedlbhlaaDoorTie.lean); close each card by the builder's one call (the guide's Derived/Test/ToyasCard.lean, 'card_holds'). Laid BY PROGRAM, IN A SANDBOX (cutbox-door.mjs). By AI agents, Wed Nov 11 2026. No macro, syntax, notation, axiom, sorry.
-/
import Derived.Test.YtbmoancedlbhlaaDoorRows
import GoSem.ClaimSeven
namespace Go.Proofs.YtbmoancedlbhlaaDoor
namespace Rows

/-- THE TIED CARD OF 'warrenlaw07.TopicMatches'. -/
def topicMatchesCard : Claim7 := { stood := { row := topicMatchesRow, standIns := [], harness := (true, "0bb0444ba779e9c3fc4bdbed949847bf25bc78a2fd8e28c62cec07d2562ff824"), looks := false }, kinds := [], alts := [], laidByText := true, laidKinds := [.data, .pinned], laidTests := true, laidLooks := .later }
def TopicMatchesCardSaid : Prop := Claim7.holds Tryd.pinned (.plain (OpenSpec.ofChange topicMatchesSpec)) topicMatchesCard

/-- THE TIED CARD OF 'warrenlaw07.TopicPlays'. -/
def topicPlaysCard : Claim7 := { stood := { row := topicPlaysRow, standIns := [], harness := (true, "0bb0444ba779e9c3fc4bdbed949847bf25bc78a2fd8e28c62cec07d2562ff824"), looks := false }, kinds := [], alts := [], laidByText := true, laidKinds := [.data, .pinned], laidTests := true, laidLooks := .later }
def TopicPlaysCardSaid : Prop := Claim7.holds Tryd.pinned (.plain (OpenSpec.ofChange topicPlaysSpec)) topicPlaysCard

/-- THE TIED CARD OF 'warrenlaw07.TopicHash'. -/
def topicHashCard : Claim7 := { stood := { row := topicHashRow, standIns := [], harness := (true, "0bb0444ba779e9c3fc4bdbed949847bf25bc78a2fd8e28c62cec07d2562ff824"), looks := false }, kinds := [], alts := [], laidByText := true, laidKinds := [.data, .pinned], laidTests := true, laidLooks := .later }
def TopicHashCardSaid : Prop := Claim7.holds Tryd.pinned (.plain (OpenSpec.ofChange topicHashSpec)) topicHashCard

/-- THE TIED CARD OF 'warrenlaw07.TopicWords'. -/
def topicWordsCard : Claim7 := { stood := { row := topicWordsRow, standIns := [], harness := (true, "0bb0444ba779e9c3fc4bdbed949847bf25bc78a2fd8e28c62cec07d2562ff824"), looks := false }, kinds := [], alts := [], laidByText := true, laidKinds := [.data, .pinned], laidTests := true, laidLooks := .later }
def TopicWordsCardSaid : Prop := Claim7.holds Tryd.pinned (.plain (OpenSpec.ofChange topicWordsSpec)) topicWordsCard

/-- THE TIED CARD OF 'warrenlaw07.TopicOrder'. -/
def topicOrderCard : Claim7 := { stood := { row := topicOrderRow, standIns := [], harness := (true, "0bb0444ba779e9c3fc4bdbed949847bf25bc78a2fd8e28c62cec07d2562ff824"), looks := false }, kinds := [], alts := [], laidByText := true, laidKinds := [.data, .pinned], laidTests := true, laidLooks := .later }
def TopicOrderCardSaid : Prop := Claim7.holds Tryd.pinned (.plain (OpenSpec.ofChange topicOrderSpec)) topicOrderCard

/-- THE SECOND FORM's CARD OF 'warrenlaw07.TopicMatches'. -/
def topicMatchesUptoCard : Claim7 := { stood := { row := topicMatchesUptoRow, standIns := [], harness := (true, "0bb0444ba779e9c3fc4bdbed949847bf25bc78a2fd8e28c62cec07d2562ff824"), looks := false }, kinds := [], alts := [], laidByText := true, laidKinds := [.data, .pinned], laidTests := true, laidLooks := .later }
def TopicMatchesUptoCardSaid : Prop := Claim7.holds Tryd.pinned (.plain (OpenSpec.upto topicMatchesSpec)) topicMatchesUptoCard

/-- THE SECOND FORM's CARD OF 'warrenlaw07.TopicPlays'. -/
def topicPlaysUptoCard : Claim7 := { stood := { row := topicPlaysUptoRow, standIns := [], harness := (true, "0bb0444ba779e9c3fc4bdbed949847bf25bc78a2fd8e28c62cec07d2562ff824"), looks := false }, kinds := [], alts := [], laidByText := true, laidKinds := [.data, .pinned], laidTests := true, laidLooks := .later }
def TopicPlaysUptoCardSaid : Prop := Claim7.holds Tryd.pinned (.plain (OpenSpec.upto topicPlaysSpec)) topicPlaysUptoCard

/-- THE SECOND FORM's CARD OF 'warrenlaw07.TopicHash'. -/
def topicHashUptoCard : Claim7 := { stood := { row := topicHashUptoRow, standIns := [], harness := (true, "0bb0444ba779e9c3fc4bdbed949847bf25bc78a2fd8e28c62cec07d2562ff824"), looks := false }, kinds := [], alts := [], laidByText := true, laidKinds := [.data, .pinned], laidTests := true, laidLooks := .later }
def TopicHashUptoCardSaid : Prop := Claim7.holds Tryd.pinned (.plain (OpenSpec.upto topicHashSpec)) topicHashUptoCard

/-- THE SECOND FORM's CARD OF 'warrenlaw07.TopicWords'. -/
def topicWordsUptoCard : Claim7 := { stood := { row := topicWordsUptoRow, standIns := [], harness := (true, "0bb0444ba779e9c3fc4bdbed949847bf25bc78a2fd8e28c62cec07d2562ff824"), looks := false }, kinds := [], alts := [], laidByText := true, laidKinds := [.data, .pinned], laidTests := true, laidLooks := .later }
def TopicWordsUptoCardSaid : Prop := Claim7.holds Tryd.pinned (.plain (OpenSpec.upto topicWordsSpec)) topicWordsUptoCard

/-- THE SECOND FORM's CARD OF 'warrenlaw07.TopicOrder'. -/
def topicOrderUptoCard : Claim7 := { stood := { row := topicOrderUptoRow, standIns := [], harness := (true, "0bb0444ba779e9c3fc4bdbed949847bf25bc78a2fd8e28c62cec07d2562ff824"), looks := false }, kinds := [], alts := [], laidByText := true, laidKinds := [.data, .pinned], laidTests := true, laidLooks := .later }
def TopicOrderUptoCardSaid : Prop := Claim7.holds Tryd.pinned (.plain (OpenSpec.upto topicOrderSpec)) topicOrderUptoCard
end Rows
end Go.Proofs.YtbmoancedlbhlaaDoor
