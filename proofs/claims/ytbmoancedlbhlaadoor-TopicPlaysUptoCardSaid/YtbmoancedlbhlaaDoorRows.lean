/-
  NARROWER THAN 'FOR EVERY INPUT', by the rows' own cells (each row's printed sentence says how): TopicMatches: laid · TopicPlays: laid · TopicHash: laid · TopicWords: laid · TopicOrder: laid.
  DERIVED. THE GIVEN ROWS OF THIS SEAT. 5 by the template 'for every input the law returns true; each argument reads behind the call as it read before'; 0 by the template 'total and deterministic' (their statements: YtbmoancedlbhlaaDoorTotals.lean).
  GIVEN WITH THE SEED: the statements are not yours to turn. If you find one false, say at which input.
  Laid BY PROGRAM, IN A SANDBOX (cutbox-rows.mjs): the forced cells as the released guide's own fill.sh prints them over the translation 9ce185cce2cac547… (all of the seat's roots in one cut). By AI agents, Wed Nov 11 2026. No macro, syntax, notation, axiom, sorry.
-/
import Derived.Test.YtbmoancedlbhlaaDoorChecked
import GoSem.PinnedTables
import GoSem.Claim
import GoSem.ClaimJoined
import GoSem.ClaimMapViews
import Derived.JoinedTies
import Derived.KernelRfl
namespace Go.Proofs.YtbmoancedlbhlaaDoor
/- THE CELL 'sum', in the pinned program and in every row, IS THE sha256 OF THE DUMP (.gsa) THAT YtbmoancedlbhlaaDoorProg.lean LOADS. Nothing in Lean hashes anything: it is a label: what it is worth is what the hold of that sum in a sandbox is worth. -/
noncomputable def Tryd.pinned : Pinned := { name := "ytbmoancedlbhlaadoor", sum := "9ce185cce2cac5471b7f690d2d0fff337d65d0cf00c980b8a6f2f549e28d67de", checked := Tryd.checked }
namespace Rows
def none {H : Type} : Left H := { results := [], args := [] }

/- WHAT THE LISTED PACKAGE-LEVEL VARIABLES READ AS WHEN THE CALL BEGINS. Each datum BY PROGRAM (the guide's laid-datum.mjs) off the statement by which the dump's own 'gosem.cut.vars' lays the variable. In a bare row this is a premise. The card (YtbmoancedlbhlaaDoorCards.lean) ties it to the program's text. -/
def laid_unicode_utf8_acceptRanges {H : Type} : DataW H := .agg [.agg [.lit (.int .u8 128), .lit (.int .u8 191)], .agg [.lit (.int .u8 160), .lit (.int .u8 191)], .agg [.lit (.int .u8 128), .lit (.int .u8 159)], .agg [.lit (.int .u8 144), .lit (.int .u8 191)], .agg [.lit (.int .u8 128), .lit (.int .u8 143)], .agg [.lit (.int .u8 0), .lit (.int .u8 0)], .agg [.lit (.int .u8 0), .lit (.int .u8 0)], .agg [.lit (.int .u8 0), .lit (.int .u8 0)], .agg [.lit (.int .u8 0), .lit (.int .u8 0)], .agg [.lit (.int .u8 0), .lit (.int .u8 0)], .agg [.lit (.int .u8 0), .lit (.int .u8 0)], .agg [.lit (.int .u8 0), .lit (.int .u8 0)], .agg [.lit (.int .u8 0), .lit (.int .u8 0)], .agg [.lit (.int .u8 0), .lit (.int .u8 0)], .agg [.lit (.int .u8 0), .lit (.int .u8 0)], .agg [.lit (.int .u8 0), .lit (.int .u8 0)]]
/-- One of Go's own tables, pinned by name: the form's constant. -/
def laid_unicode_utf8_first : DataW Unit := Go.Pinned.utf8First

/-- 'warrenlaw07.TopicMatches': WHATEVER THE INPUT: true; the input reads as it did. -/
def topicMatchesSpec : ChangeSpec := { name := "topicMatches", fn := fun _ => fun
  | [d1, d2] => { results := [.lit (.bool true)], args := [d1, d2] }
  | _ => none }
def topicMatchesRow : OpenClaim := { program := "ytbmoancedlbhlaadoor", sum := "9ce185cce2cac5471b7f690d2d0fff337d65d0cf00c980b8a6f2f549e28d67de", func := "warren/warrenlaw07.TopicMatches", spec := "topicMatches", inPlace := ["internal/bytealg.CountString", "internal/bytealg.IndexByteString", "internal/bytealg.IndexString"], unfollowed := true, recurses := true, named := ["unicode/utf8.first", "unicode/utf8.acceptRanges", "internal/bytealg.MaxLen"], apart := false, laid := [("unicode/utf8.acceptRanges", laid_unicode_utf8_acceptRanges), ("unicode/utf8.first", laid_unicode_utf8_first)] }
def TopicMatchesSaid : Prop := topicMatchesRow.holds Tryd.pinned (OpenSpec.ofChange topicMatchesSpec)

/-- ITS FALSE NEIGHBOUR: 'it returns false'. Refute it at one input. -/
def topicMatchesWrong : ChangeSpec := { name := "topicMatches", fn := fun _ => fun
  | [d1, d2] => { results := [.lit (.bool false)], args := [d1, d2] }
  | _ => none }
def TopicMatchesWrongFalsely : Prop := topicMatchesRow.holds Tryd.pinned (OpenSpec.ofChange topicMatchesWrong)

/-- 'warrenlaw07.TopicPlays': WHATEVER THE INPUT: true; the input reads as it did. -/
def topicPlaysSpec : ChangeSpec := { name := "topicPlays", fn := fun _ => fun
  | [d] => { results := [.lit (.bool true)], args := [d] }
  | _ => none }
def topicPlaysRow : OpenClaim := { program := "ytbmoancedlbhlaadoor", sum := "9ce185cce2cac5471b7f690d2d0fff337d65d0cf00c980b8a6f2f549e28d67de", func := "warren/warrenlaw07.TopicPlays", spec := "topicPlays", inPlace := ["internal/bytealg.CountString", "internal/bytealg.IndexByteString", "internal/bytealg.IndexString"], unfollowed := true, recurses := true, named := ["unicode/utf8.first", "unicode/utf8.acceptRanges", "internal/bytealg.MaxLen"], apart := false, laid := [("unicode/utf8.acceptRanges", laid_unicode_utf8_acceptRanges), ("unicode/utf8.first", laid_unicode_utf8_first)] }
def TopicPlaysSaid : Prop := topicPlaysRow.holds Tryd.pinned (OpenSpec.ofChange topicPlaysSpec)

/-- ITS FALSE NEIGHBOUR: 'it returns false'. Refute it at one input. -/
def topicPlaysWrong : ChangeSpec := { name := "topicPlays", fn := fun _ => fun
  | [d] => { results := [.lit (.bool false)], args := [d] }
  | _ => none }
def TopicPlaysWrongFalsely : Prop := topicPlaysRow.holds Tryd.pinned (OpenSpec.ofChange topicPlaysWrong)

/-- 'warrenlaw07.TopicHash': WHATEVER THE INPUT: true; the input reads as it did. -/
def topicHashSpec : ChangeSpec := { name := "topicHash", fn := fun _ => fun
  | [d1, d2, d3] => { results := [.lit (.bool true)], args := [d1, d2, d3] }
  | _ => none }
def topicHashRow : OpenClaim := { program := "ytbmoancedlbhlaadoor", sum := "9ce185cce2cac5471b7f690d2d0fff337d65d0cf00c980b8a6f2f549e28d67de", func := "warren/warrenlaw07.TopicHash", spec := "topicHash", inPlace := ["internal/bytealg.CountString", "internal/bytealg.IndexByteString", "internal/bytealg.IndexString"], unfollowed := true, recurses := true, named := ["unicode/utf8.first", "unicode/utf8.acceptRanges", "internal/bytealg.MaxLen"], apart := false, laid := [("unicode/utf8.acceptRanges", laid_unicode_utf8_acceptRanges), ("unicode/utf8.first", laid_unicode_utf8_first)] }
def TopicHashSaid : Prop := topicHashRow.holds Tryd.pinned (OpenSpec.ofChange topicHashSpec)

/-- ITS FALSE NEIGHBOUR: 'it returns false'. Refute it at one input. -/
def topicHashWrong : ChangeSpec := { name := "topicHash", fn := fun _ => fun
  | [d1, d2, d3] => { results := [.lit (.bool false)], args := [d1, d2, d3] }
  | _ => none }
def TopicHashWrongFalsely : Prop := topicHashRow.holds Tryd.pinned (OpenSpec.ofChange topicHashWrong)

/-- 'warrenlaw07.TopicWords': WHATEVER THE INPUT: true; the input reads as it did. -/
def topicWordsSpec : ChangeSpec := { name := "topicWords", fn := fun _ => fun
  | [d1, d2] => { results := [.lit (.bool true)], args := [d1, d2] }
  | _ => none }
def topicWordsRow : OpenClaim := { program := "ytbmoancedlbhlaadoor", sum := "9ce185cce2cac5471b7f690d2d0fff337d65d0cf00c980b8a6f2f549e28d67de", func := "warren/warrenlaw07.TopicWords", spec := "topicWords", inPlace := ["internal/bytealg.CountString", "internal/bytealg.IndexByteString", "internal/bytealg.IndexString"], unfollowed := true, recurses := true, named := ["unicode/utf8.first", "unicode/utf8.acceptRanges", "internal/bytealg.MaxLen"], apart := false, laid := [("unicode/utf8.acceptRanges", laid_unicode_utf8_acceptRanges), ("unicode/utf8.first", laid_unicode_utf8_first)] }
def TopicWordsSaid : Prop := topicWordsRow.holds Tryd.pinned (OpenSpec.ofChange topicWordsSpec)

/-- ITS FALSE NEIGHBOUR: 'it returns false'. Refute it at one input. -/
def topicWordsWrong : ChangeSpec := { name := "topicWords", fn := fun _ => fun
  | [d1, d2] => { results := [.lit (.bool false)], args := [d1, d2] }
  | _ => none }
def TopicWordsWrongFalsely : Prop := topicWordsRow.holds Tryd.pinned (OpenSpec.ofChange topicWordsWrong)

/-- 'warrenlaw07.TopicOrder': WHATEVER THE INPUT: true; the input reads as it did. -/
def topicOrderSpec : ChangeSpec := { name := "topicOrder", fn := fun _ => fun
  | [d1, d2] => { results := [.lit (.bool true)], args := [d1, d2] }
  | _ => none }
def topicOrderRow : OpenClaim := { program := "ytbmoancedlbhlaadoor", sum := "9ce185cce2cac5471b7f690d2d0fff337d65d0cf00c980b8a6f2f549e28d67de", func := "warren/warrenlaw07.TopicOrder", spec := "topicOrder", inPlace := ["internal/bytealg.CountString", "internal/bytealg.IndexByteString", "internal/bytealg.IndexString"], unfollowed := true, recurses := true, named := ["unicode/utf8.first", "unicode/utf8.acceptRanges", "internal/bytealg.MaxLen"], apart := false, laid := [("unicode/utf8.acceptRanges", laid_unicode_utf8_acceptRanges), ("unicode/utf8.first", laid_unicode_utf8_first)] }
def TopicOrderSaid : Prop := topicOrderRow.holds Tryd.pinned (OpenSpec.ofChange topicOrderSpec)

/-- ITS FALSE NEIGHBOUR: 'it returns false'. Refute it at one input. -/
def topicOrderWrong : ChangeSpec := { name := "topicOrder", fn := fun _ => fun
  | [d1, d2] => { results := [.lit (.bool false)], args := [d1, d2] }
  | _ => none }
def TopicOrderWrongFalsely : Prop := topicOrderRow.holds Tryd.pinned (OpenSpec.ofChange topicOrderWrong)

/- THE SECOND FORM. 'bulk': how many values and letters a reading holds, each counted each time it is reached (what is shared counts as often as it is met; a slice's spare places count too). A statement '..UptoSaid' is the law's where the arguments, and the package variables that the reading takes, are together of bulk at most 1048576: NARROWER than '..Said'. Prove '..Said' where nothing that the law and all that it calls make is longer than what came in: it says more and counts as full. Else prove '..UptoSaid'. A law counts once. -/
mutual
def uptoBulk {H : Type} : DataW H → Nat
  | .lit (.string bytes) => bytes.length + 1
  | .lit _ => 1
  | .nil => 1
  | .ptr d => uptoBulk d + 1
  | .slice elems spare => uptoBulkAll elems + uptoBulkAll spare + 1
  | .agg parts => uptoBulkAll parts + 1
  | .iface _ d => uptoBulk d + 1
  | .map entries => uptoBulkEntries entries + 1
  | .held _ => 1
def uptoBulkAll {H : Type} : List (DataW H) → Nat
  | [] => 0
  | d :: r => uptoBulk d + uptoBulkAll r
def uptoBulkEntries {H : Type} : List (Lit × DataW H) → Nat
  | [] => 0
  | x :: r => uptoBulkEntry x + uptoBulkEntries r
def uptoBulkEntry {H : Type} : Lit × DataW H → Nat
  | (.string bytes, d) => bytes.length + uptoBulk d + 1
  | (_, d) => uptoBulk d + 1
 end
def uptoSmall : (H : Type) → List (DataW H) → Bool := fun _ ds => decide (uptoBulkAll ds ≤ 1048576)
def OpenSpec.upto (s : _root_.Go.ChangeSpec) : _root_.Go.OpenSpec := { _root_.Go.OpenSpec.ofChange s with cond := some uptoSmall }

/-- 'warrenlaw07.TopicMatches', WHERE WHAT IT READS IS OF BULK AT MOST 1048576: true; the input reads as it did. -/
def topicMatchesUptoRow : OpenClaim := { program := "ytbmoancedlbhlaadoor", sum := "9ce185cce2cac5471b7f690d2d0fff337d65d0cf00c980b8a6f2f549e28d67de", func := "warren/warrenlaw07.TopicMatches", spec := "topicMatches", inPlace := ["internal/bytealg.CountString", "internal/bytealg.IndexByteString", "internal/bytealg.IndexString"], unfollowed := true, recurses := true, named := ["unicode/utf8.first", "unicode/utf8.acceptRanges", "internal/bytealg.MaxLen"], apart := false, laid := [("unicode/utf8.acceptRanges", laid_unicode_utf8_acceptRanges), ("unicode/utf8.first", laid_unicode_utf8_first)], narrowed := true }
def TopicMatchesUptoSaid : Prop := topicMatchesUptoRow.holds Tryd.pinned (OpenSpec.upto topicMatchesSpec)

/-- 'warrenlaw07.TopicPlays', WHERE WHAT IT READS IS OF BULK AT MOST 1048576: true; the input reads as it did. -/
def topicPlaysUptoRow : OpenClaim := { program := "ytbmoancedlbhlaadoor", sum := "9ce185cce2cac5471b7f690d2d0fff337d65d0cf00c980b8a6f2f549e28d67de", func := "warren/warrenlaw07.TopicPlays", spec := "topicPlays", inPlace := ["internal/bytealg.CountString", "internal/bytealg.IndexByteString", "internal/bytealg.IndexString"], unfollowed := true, recurses := true, named := ["unicode/utf8.first", "unicode/utf8.acceptRanges", "internal/bytealg.MaxLen"], apart := false, laid := [("unicode/utf8.acceptRanges", laid_unicode_utf8_acceptRanges), ("unicode/utf8.first", laid_unicode_utf8_first)], narrowed := true }
def TopicPlaysUptoSaid : Prop := topicPlaysUptoRow.holds Tryd.pinned (OpenSpec.upto topicPlaysSpec)

/-- 'warrenlaw07.TopicHash', WHERE WHAT IT READS IS OF BULK AT MOST 1048576: true; the input reads as it did. -/
def topicHashUptoRow : OpenClaim := { program := "ytbmoancedlbhlaadoor", sum := "9ce185cce2cac5471b7f690d2d0fff337d65d0cf00c980b8a6f2f549e28d67de", func := "warren/warrenlaw07.TopicHash", spec := "topicHash", inPlace := ["internal/bytealg.CountString", "internal/bytealg.IndexByteString", "internal/bytealg.IndexString"], unfollowed := true, recurses := true, named := ["unicode/utf8.first", "unicode/utf8.acceptRanges", "internal/bytealg.MaxLen"], apart := false, laid := [("unicode/utf8.acceptRanges", laid_unicode_utf8_acceptRanges), ("unicode/utf8.first", laid_unicode_utf8_first)], narrowed := true }
def TopicHashUptoSaid : Prop := topicHashUptoRow.holds Tryd.pinned (OpenSpec.upto topicHashSpec)

/-- 'warrenlaw07.TopicWords', WHERE WHAT IT READS IS OF BULK AT MOST 1048576: true; the input reads as it did. -/
def topicWordsUptoRow : OpenClaim := { program := "ytbmoancedlbhlaadoor", sum := "9ce185cce2cac5471b7f690d2d0fff337d65d0cf00c980b8a6f2f549e28d67de", func := "warren/warrenlaw07.TopicWords", spec := "topicWords", inPlace := ["internal/bytealg.CountString", "internal/bytealg.IndexByteString", "internal/bytealg.IndexString"], unfollowed := true, recurses := true, named := ["unicode/utf8.first", "unicode/utf8.acceptRanges", "internal/bytealg.MaxLen"], apart := false, laid := [("unicode/utf8.acceptRanges", laid_unicode_utf8_acceptRanges), ("unicode/utf8.first", laid_unicode_utf8_first)], narrowed := true }
def TopicWordsUptoSaid : Prop := topicWordsUptoRow.holds Tryd.pinned (OpenSpec.upto topicWordsSpec)

/-- 'warrenlaw07.TopicOrder', WHERE WHAT IT READS IS OF BULK AT MOST 1048576: true; the input reads as it did. -/
def topicOrderUptoRow : OpenClaim := { program := "ytbmoancedlbhlaadoor", sum := "9ce185cce2cac5471b7f690d2d0fff337d65d0cf00c980b8a6f2f549e28d67de", func := "warren/warrenlaw07.TopicOrder", spec := "topicOrder", inPlace := ["internal/bytealg.CountString", "internal/bytealg.IndexByteString", "internal/bytealg.IndexString"], unfollowed := true, recurses := true, named := ["unicode/utf8.first", "unicode/utf8.acceptRanges", "internal/bytealg.MaxLen"], apart := false, laid := [("unicode/utf8.acceptRanges", laid_unicode_utf8_acceptRanges), ("unicode/utf8.first", laid_unicode_utf8_first)], narrowed := true }
def TopicOrderUptoSaid : Prop := topicOrderUptoRow.holds Tryd.pinned (OpenSpec.upto topicOrderSpec)

end Rows
end Go.Proofs.YtbmoancedlbhlaaDoor
