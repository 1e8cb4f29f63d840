/-
  NARROWER THAN 'FOR EVERY INPUT', by the rows' own cells (each row's printed sentence says how): RouterNames: laid · RouterCycles: laid · RouterPlays: loops, laid · RouterUndone: loops, laid.
  DERIVED. THE GIVEN ROWS OF THIS SEAT. 4 by the template 'for every input the law returns true; each argument reads behind the call as it read before'; 0 by the template 'total and deterministic' (their statements: YtodaakiodpdncaaGreatDoorTotals.lean).
  GIVEN WITH THE SEED: the statements are not yours to turn. If you find one false, say at which input.
  Laid BY PROGRAM, IN A SANDBOX (cutbox-rows.mjs): the forced cells as the released guide's own fill.sh prints them over the translation 2fd9fddadafb57cc… (all of the seat's roots in one cut). By AI agents, Wed Nov 11 2026. No macro, syntax, notation, axiom, sorry.
-/
import Derived.Test.YtodaakiodpdncaaGreatDoorChecked
import GoSem.PinnedTables
import GoSem.Claim
import GoSem.ClaimJoined
import GoSem.ClaimMapViews
import Derived.JoinedTies
import Derived.KernelRfl
namespace Go.Proofs.YtodaakiodpdncaaGreatDoor
/- THE CELL 'sum', in the pinned program and in every row, IS THE sha256 OF THE DUMP (.gsa) THAT YtodaakiodpdncaaGreatDoorProg.lean LOADS. Nothing in Lean hashes anything: it is a label: what it is worth is what the hold of that sum in a sandbox is worth. -/
noncomputable def Tryz.pinned : Pinned := { name := "ytodaakiodpdncaagreatdoor", sum := "2fd9fddadafb57cc11c2cbfe14cede19dbf288b99581b44daa44fd3379d64bbe", checked := Tryz.checked }
namespace Rows
def none {H : Type} : Left H := { results := [], args := [] }

/- WHAT THE LISTED PACKAGE-LEVEL VARIABLES READ AS WHEN THE CALL BEGINS. Each datum BY PROGRAM (the guide's laid-datum.mjs) off the statement by which the dump's own 'gosem.cut.vars' lays the variable. In a bare row this is a premise. The card (YtodaakiodpdncaaGreatDoorCards.lean) ties it to the program's text. -/
def laid_unicode_utf8_acceptRanges {H : Type} : DataW H := .agg [.agg [.lit (.int .u8 128), .lit (.int .u8 191)], .agg [.lit (.int .u8 160), .lit (.int .u8 191)], .agg [.lit (.int .u8 128), .lit (.int .u8 159)], .agg [.lit (.int .u8 144), .lit (.int .u8 191)], .agg [.lit (.int .u8 128), .lit (.int .u8 143)], .agg [.lit (.int .u8 0), .lit (.int .u8 0)], .agg [.lit (.int .u8 0), .lit (.int .u8 0)], .agg [.lit (.int .u8 0), .lit (.int .u8 0)], .agg [.lit (.int .u8 0), .lit (.int .u8 0)], .agg [.lit (.int .u8 0), .lit (.int .u8 0)], .agg [.lit (.int .u8 0), .lit (.int .u8 0)], .agg [.lit (.int .u8 0), .lit (.int .u8 0)], .agg [.lit (.int .u8 0), .lit (.int .u8 0)], .agg [.lit (.int .u8 0), .lit (.int .u8 0)], .agg [.lit (.int .u8 0), .lit (.int .u8 0)], .agg [.lit (.int .u8 0), .lit (.int .u8 0)]]
/-- One of Go's own tables, pinned by name: the form's constant. -/
def laid_unicode_utf8_first : DataW Unit := Go.Pinned.utf8First

/-- 'warrenlaw16.RouterNames': WHATEVER THE INPUT: true; the input reads as it did. -/
def routerNamesSpec : ChangeSpec := { name := "routerNames", fn := fun _ => fun
  | [] => { results := [.lit (.bool true)], args := [] }
  | _ => none }
def routerNamesRow : OpenClaim := { program := "ytodaakiodpdncaagreatdoor", sum := "2fd9fddadafb57cc11c2cbfe14cede19dbf288b99581b44daa44fd3379d64bbe", func := "warren/warrenlaw16.RouterNames", spec := "routerNames", inPlace := ["internal/bytealg.CountString", "internal/bytealg.IndexByteString", "internal/bytealg.IndexString"], unfollowed := true, recurses := true, named := ["unicode/utf8.first", "unicode/utf8.acceptRanges", "internal/bytealg.MaxLen"], apart := false, laid := [("unicode/utf8.acceptRanges", laid_unicode_utf8_acceptRanges), ("unicode/utf8.first", laid_unicode_utf8_first)] }
def RouterNamesSaid : Prop := routerNamesRow.holds Tryz.pinned (OpenSpec.ofChange routerNamesSpec)

/-- ITS FALSE NEIGHBOUR: 'it returns false'. Refute it at one input. -/
def routerNamesWrong : ChangeSpec := { name := "routerNames", fn := fun _ => fun
  | [] => { results := [.lit (.bool false)], args := [] }
  | _ => none }
def RouterNamesWrongFalsely : Prop := routerNamesRow.holds Tryz.pinned (OpenSpec.ofChange routerNamesWrong)

/-- 'warrenlaw16.RouterCycles': WHATEVER THE INPUT: true; the input reads as it did. -/
def routerCyclesSpec : ChangeSpec := { name := "routerCycles", fn := fun _ => fun
  | [d1, d2] => { results := [.lit (.bool true)], args := [d1, d2] }
  | _ => none }
def routerCyclesRow : OpenClaim := { program := "ytodaakiodpdncaagreatdoor", sum := "2fd9fddadafb57cc11c2cbfe14cede19dbf288b99581b44daa44fd3379d64bbe", func := "warren/warrenlaw16.RouterCycles", spec := "routerCycles", inPlace := ["internal/bytealg.CountString", "internal/bytealg.IndexByteString", "internal/bytealg.IndexString"], unfollowed := true, recurses := true, named := ["unicode/utf8.first", "unicode/utf8.acceptRanges", "internal/bytealg.MaxLen"], apart := false, laid := [("unicode/utf8.acceptRanges", laid_unicode_utf8_acceptRanges), ("unicode/utf8.first", laid_unicode_utf8_first)] }
def RouterCyclesSaid : Prop := routerCyclesRow.holds Tryz.pinned (OpenSpec.ofChange routerCyclesSpec)

/-- ITS FALSE NEIGHBOUR: 'it returns false'. Refute it at one input. -/
def routerCyclesWrong : ChangeSpec := { name := "routerCycles", fn := fun _ => fun
  | [d1, d2] => { results := [.lit (.bool false)], args := [d1, d2] }
  | _ => none }
def RouterCyclesWrongFalsely : Prop := routerCyclesRow.holds Tryz.pinned (OpenSpec.ofChange routerCyclesWrong)

/-- 'warrenlaw16.RouterPlays': WHATEVER THE INPUT: true; the input reads as it did. -/
def routerPlaysSpec : ChangeSpec := { name := "routerPlays", fn := fun _ => fun
  | [d] => { results := [.lit (.bool true)], args := [d] }
  | _ => none }
def routerPlaysRow : OpenClaim := { program := "ytodaakiodpdncaagreatdoor", sum := "2fd9fddadafb57cc11c2cbfe14cede19dbf288b99581b44daa44fd3379d64bbe", func := "warren/warrenlaw16.RouterPlays", spec := "routerPlays", inPlace := ["internal/bytealg.CountString", "internal/bytealg.IndexByteString", "internal/bytealg.IndexString"], unfollowed := true, recurses := true, named := ["unicode/utf8.first", "unicode/utf8.acceptRanges", "internal/bytealg.MaxLen"], loops := true, apart := false, laid := [("unicode/utf8.acceptRanges", laid_unicode_utf8_acceptRanges), ("unicode/utf8.first", laid_unicode_utf8_first)] }
def RouterPlaysSaid : Prop := routerPlaysRow.holds Tryz.pinned (OpenSpec.ofChange routerPlaysSpec)

/-- ITS FALSE NEIGHBOUR: 'it returns false'. Refute it at one input. -/
def routerPlaysWrong : ChangeSpec := { name := "routerPlays", fn := fun _ => fun
  | [d] => { results := [.lit (.bool false)], args := [d] }
  | _ => none }
def RouterPlaysWrongFalsely : Prop := routerPlaysRow.holds Tryz.pinned (OpenSpec.ofChange routerPlaysWrong)

/-- 'warrenlaw16.RouterUndone': WHATEVER THE INPUT: true; the input reads as it did. -/
def routerUndoneSpec : ChangeSpec := { name := "routerUndone", fn := fun _ => fun
  | [d1, d2] => { results := [.lit (.bool true)], args := [d1, d2] }
  | _ => none }
def routerUndoneRow : OpenClaim := { program := "ytodaakiodpdncaagreatdoor", sum := "2fd9fddadafb57cc11c2cbfe14cede19dbf288b99581b44daa44fd3379d64bbe", func := "warren/warrenlaw16.RouterUndone", spec := "routerUndone", inPlace := ["internal/bytealg.CountString", "internal/bytealg.IndexByteString", "internal/bytealg.IndexString"], unfollowed := true, recurses := true, named := ["unicode/utf8.first", "unicode/utf8.acceptRanges", "internal/bytealg.MaxLen"], loops := true, apart := false, laid := [("unicode/utf8.acceptRanges", laid_unicode_utf8_acceptRanges), ("unicode/utf8.first", laid_unicode_utf8_first)] }
def RouterUndoneSaid : Prop := routerUndoneRow.holds Tryz.pinned (OpenSpec.ofChange routerUndoneSpec)

/-- ITS FALSE NEIGHBOUR: 'it returns false'. Refute it at one input. -/
def routerUndoneWrong : ChangeSpec := { name := "routerUndone", fn := fun _ => fun
  | [d1, d2] => { results := [.lit (.bool false)], args := [d1, d2] }
  | _ => none }
def RouterUndoneWrongFalsely : Prop := routerUndoneRow.holds Tryz.pinned (OpenSpec.ofChange routerUndoneWrong)

/- THE SECOND FORM. 'bulk': how many values and letters a reading holds, each counted each time it is reached (what is shared counts as often as it is met; a slice's spare places count too). A statement '..UptoSaid' is the law's where the arguments, and the package variables that the reading takes, are together of bulk at most 1048576: NARROWER than '..Said'. Prove '..Said' where nothing that the law and all that it calls make is longer than what came in: it says more and counts as full. Else prove '..UptoSaid'. A law counts once. -/
mutual
def uptoBulk {H : Type} : DataW H → Nat
  | .lit (.string bytes) => bytes.length + 1
  | .lit _ => 1
  | .nil => 1
  | .ptr d => uptoBulk d + 1
  | .slice elems spare => uptoBulkAll elems + uptoBulkAll spare + 1
  | .agg parts => uptoBulkAll parts + 1
  | .iface _ d => uptoBulk d + 1
  | .map entries => uptoBulkEntries entries + 1
  | .held _ => 1
def uptoBulkAll {H : Type} : List (DataW H) → Nat
  | [] => 0
  | d :: r => uptoBulk d + uptoBulkAll r
def uptoBulkEntries {H : Type} : List (Lit × DataW H) → Nat
  | [] => 0
  | x :: r => uptoBulkEntry x + uptoBulkEntries r
def uptoBulkEntry {H : Type} : Lit × DataW H → Nat
  | (.string bytes, d) => bytes.length + uptoBulk d + 1
  | (_, d) => uptoBulk d + 1
 end
def uptoSmall : (H : Type) → List (DataW H) → Bool := fun _ ds => decide (uptoBulkAll ds ≤ 1048576)
def OpenSpec.upto (s : _root_.Go.ChangeSpec) : _root_.Go.OpenSpec := { _root_.Go.OpenSpec.ofChange s with cond := some uptoSmall }

/-- 'warrenlaw16.RouterNames', WHERE WHAT IT READS IS OF BULK AT MOST 1048576: true; the input reads as it did. -/
def routerNamesUptoRow : OpenClaim := { program := "ytodaakiodpdncaagreatdoor", sum := "2fd9fddadafb57cc11c2cbfe14cede19dbf288b99581b44daa44fd3379d64bbe", func := "warren/warrenlaw16.RouterNames", spec := "routerNames", inPlace := ["internal/bytealg.CountString", "internal/bytealg.IndexByteString", "internal/bytealg.IndexString"], unfollowed := true, recurses := true, named := ["unicode/utf8.first", "unicode/utf8.acceptRanges", "internal/bytealg.MaxLen"], apart := false, laid := [("unicode/utf8.acceptRanges", laid_unicode_utf8_acceptRanges), ("unicode/utf8.first", laid_unicode_utf8_first)], narrowed := true }
def RouterNamesUptoSaid : Prop := routerNamesUptoRow.holds Tryz.pinned (OpenSpec.upto routerNamesSpec)

/-- 'warrenlaw16.RouterCycles', WHERE WHAT IT READS IS OF BULK AT MOST 1048576: true; the input reads as it did. -/
def routerCyclesUptoRow : OpenClaim := { program := "ytodaakiodpdncaagreatdoor", sum := "2fd9fddadafb57cc11c2cbfe14cede19dbf288b99581b44daa44fd3379d64bbe", func := "warren/warrenlaw16.RouterCycles", spec := "routerCycles", inPlace := ["internal/bytealg.CountString", "internal/bytealg.IndexByteString", "internal/bytealg.IndexString"], unfollowed := true, recurses := true, named := ["unicode/utf8.first", "unicode/utf8.acceptRanges", "internal/bytealg.MaxLen"], apart := false, laid := [("unicode/utf8.acceptRanges", laid_unicode_utf8_acceptRanges), ("unicode/utf8.first", laid_unicode_utf8_first)], narrowed := true }
def RouterCyclesUptoSaid : Prop := routerCyclesUptoRow.holds Tryz.pinned (OpenSpec.upto routerCyclesSpec)

/-- 'warrenlaw16.RouterPlays', WHERE WHAT IT READS IS OF BULK AT MOST 1048576: true; the input reads as it did. -/
def routerPlaysUptoRow : OpenClaim := { program := "ytodaakiodpdncaagreatdoor", sum := "2fd9fddadafb57cc11c2cbfe14cede19dbf288b99581b44daa44fd3379d64bbe", func := "warren/warrenlaw16.RouterPlays", spec := "routerPlays", inPlace := ["internal/bytealg.CountString", "internal/bytealg.IndexByteString", "internal/bytealg.IndexString"], unfollowed := true, recurses := true, named := ["unicode/utf8.first", "unicode/utf8.acceptRanges", "internal/bytealg.MaxLen"], loops := true, apart := false, laid := [("unicode/utf8.acceptRanges", laid_unicode_utf8_acceptRanges), ("unicode/utf8.first", laid_unicode_utf8_first)], narrowed := true }
def RouterPlaysUptoSaid : Prop := routerPlaysUptoRow.holds Tryz.pinned (OpenSpec.upto routerPlaysSpec)

/-- 'warrenlaw16.RouterUndone', WHERE WHAT IT READS IS OF BULK AT MOST 1048576: true; the input reads as it did. -/
def routerUndoneUptoRow : OpenClaim := { program := "ytodaakiodpdncaagreatdoor", sum := "2fd9fddadafb57cc11c2cbfe14cede19dbf288b99581b44daa44fd3379d64bbe", func := "warren/warrenlaw16.RouterUndone", spec := "routerUndone", inPlace := ["internal/bytealg.CountString", "internal/bytealg.IndexByteString", "internal/bytealg.IndexString"], unfollowed := true, recurses := true, named := ["unicode/utf8.first", "unicode/utf8.acceptRanges", "internal/bytealg.MaxLen"], loops := true, apart := false, laid := [("unicode/utf8.acceptRanges", laid_unicode_utf8_acceptRanges), ("unicode/utf8.first", laid_unicode_utf8_first)], narrowed := true }
def RouterUndoneUptoSaid : Prop := routerUndoneUptoRow.holds Tryz.pinned (OpenSpec.upto routerUndoneSpec)

end Rows
end Go.Proofs.YtodaakiodpdncaaGreatDoor
