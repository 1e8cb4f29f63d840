/-
  No cell of these rows narrows 'for every input' (looked for: loops, veiled, ifaces, maps, wideKeys, modest, calm, conditions, laid).
  DERIVED. THE GIVEN ROWS OF THIS SEAT. 3 by the template 'for every input the law returns true; each argument reads behind the call as it read before'; 0 by the template 'total and deterministic' (their statements: YtcpijmlaglcblaaTotals.lean).
  GIVEN WITH THE SEED: the statements are not yours to turn. If you find one false, say at which input.
  Laid BY PROGRAM, IN A SANDBOX (cutbox-rows.mjs): the forced cells as the released guide's own fill.sh prints them over the translation 731f633a7c11821c… (all of the seat's roots in one cut). By AI agents, Wed Nov 11 2026. No macro, syntax, notation, axiom, sorry.
-/
import Derived.Test.YtcpijmlaglcblaaChecked
import GoSem.Claim
import GoSem.ClaimJoined
import GoSem.ClaimMapViews
import Derived.JoinedTies
import Derived.KernelRfl
namespace Go.Proofs.Ytcpijmlaglcblaa
/- THE CELL 'sum', in the pinned program and in every row, IS THE sha256 OF THE DUMP (.gsa) THAT YtcpijmlaglcblaaProg.lean LOADS. Nothing in Lean hashes anything: it is a label: what it is worth is what the hold of that sum in a sandbox is worth. -/
noncomputable def Try.pinned : Pinned := { name := "ytcpijmlaglcblaa", sum := "731f633a7c11821cedebf0c20f25ca0997c42322a95f212b8dc83ea5edb82f6d", checked := Try.checked }
namespace Rows
def none {H : Type} : Left H := { results := [], args := [] }

/-- 'warrenlaw09.RanksDrains': WHATEVER THE INPUT: true; the input reads as it did. -/
def ranksDrainsSpec : ChangeSpec := { name := "ranksDrains", fn := fun _ => fun
  | [d] => { results := [.lit (.bool true)], args := [d] }
  | _ => none }
def ranksDrainsRow : OpenClaim := { program := "ytcpijmlaglcblaa", sum := "731f633a7c11821cedebf0c20f25ca0997c42322a95f212b8dc83ea5edb82f6d", func := "warren/warrenlaw09.RanksDrains", spec := "ranksDrains", unfollowed := true, recurses := true, apart := false }
def RanksDrainsSaid : Prop := ranksDrainsRow.holds Try.pinned (OpenSpec.ofChange ranksDrainsSpec)

/-- ITS FALSE NEIGHBOUR: 'it returns false'. Refute it at one input. -/
def ranksDrainsWrong : ChangeSpec := { name := "ranksDrains", fn := fun _ => fun
  | [d] => { results := [.lit (.bool false)], args := [d] }
  | _ => none }
def RanksDrainsWrongFalsely : Prop := ranksDrainsRow.holds Try.pinned (OpenSpec.ofChange ranksDrainsWrong)

/-- 'warrenlaw09.RanksReturns': WHATEVER THE INPUT: true; the input reads as it did. -/
def ranksReturnsSpec : ChangeSpec := { name := "ranksReturns", fn := fun _ => fun
  | [d1, d2] => { results := [.lit (.bool true)], args := [d1, d2] }
  | _ => none }
def ranksReturnsRow : OpenClaim := { program := "ytcpijmlaglcblaa", sum := "731f633a7c11821cedebf0c20f25ca0997c42322a95f212b8dc83ea5edb82f6d", func := "warren/warrenlaw09.RanksReturns", spec := "ranksReturns", unfollowed := true, recurses := true, apart := false }
def RanksReturnsSaid : Prop := ranksReturnsRow.holds Try.pinned (OpenSpec.ofChange ranksReturnsSpec)

/-- ITS FALSE NEIGHBOUR: 'it returns false'. Refute it at one input. -/
def ranksReturnsWrong : ChangeSpec := { name := "ranksReturns", fn := fun _ => fun
  | [d1, d2] => { results := [.lit (.bool false)], args := [d1, d2] }
  | _ => none }
def RanksReturnsWrongFalsely : Prop := ranksReturnsRow.holds Try.pinned (OpenSpec.ofChange ranksReturnsWrong)

/-- 'warrenlaw09.RanksPlays': WHATEVER THE INPUT: true; the input reads as it did. -/
def ranksPlaysSpec : ChangeSpec := { name := "ranksPlays", fn := fun _ => fun
  | [d] => { results := [.lit (.bool true)], args := [d] }
  | _ => none }
def ranksPlaysRow : OpenClaim := { program := "ytcpijmlaglcblaa", sum := "731f633a7c11821cedebf0c20f25ca0997c42322a95f212b8dc83ea5edb82f6d", func := "warren/warrenlaw09.RanksPlays", spec := "ranksPlays", unfollowed := true, recurses := true, apart := false }
def RanksPlaysSaid : Prop := ranksPlaysRow.holds Try.pinned (OpenSpec.ofChange ranksPlaysSpec)

/-- ITS FALSE NEIGHBOUR: 'it returns false'. Refute it at one input. -/
def ranksPlaysWrong : ChangeSpec := { name := "ranksPlays", fn := fun _ => fun
  | [d] => { results := [.lit (.bool false)], args := [d] }
  | _ => none }
def RanksPlaysWrongFalsely : Prop := ranksPlaysRow.holds Try.pinned (OpenSpec.ofChange ranksPlaysWrong)

/- THE SECOND FORM. 'bulk': how many values and letters a reading holds, each counted each time it is reached (what is shared counts as often as it is met; a slice's spare places count too). A statement '..UptoSaid' is the law's where the arguments, and the package variables that the reading takes, are together of bulk at most 1048576: NARROWER than '..Said'. Prove '..Said' where nothing that the law and all that it calls make is longer than what came in: it says more and counts as full. Else prove '..UptoSaid'. A law counts once. -/
mutual
def uptoBulk {H : Type} : DataW H → Nat
  | .lit (.string bytes) => bytes.length + 1
  | .lit _ => 1
  | .nil => 1
  | .ptr d => uptoBulk d + 1
  | .slice elems spare => uptoBulkAll elems + uptoBulkAll spare + 1
  | .agg parts => uptoBulkAll parts + 1
  | .iface _ d => uptoBulk d + 1
  | .map entries => uptoBulkEntries entries + 1
  | .held _ => 1
def uptoBulkAll {H : Type} : List (DataW H) → Nat
  | [] => 0
  | d :: r => uptoBulk d + uptoBulkAll r
def uptoBulkEntries {H : Type} : List (Lit × DataW H) → Nat
  | [] => 0
  | x :: r => uptoBulkEntry x + uptoBulkEntries r
def uptoBulkEntry {H : Type} : Lit × DataW H → Nat
  | (.string bytes, d) => bytes.length + uptoBulk d + 1
  | (_, d) => uptoBulk d + 1
 end
def uptoSmall : (H : Type) → List (DataW H) → Bool := fun _ ds => decide (uptoBulkAll ds ≤ 1048576)
def OpenSpec.upto (s : _root_.Go.ChangeSpec) : _root_.Go.OpenSpec := { _root_.Go.OpenSpec.ofChange s with cond := some uptoSmall }

/-- 'warrenlaw09.RanksDrains', WHERE WHAT IT READS IS OF BULK AT MOST 1048576: true; the input reads as it did. -/
def ranksDrainsUptoRow : OpenClaim := { program := "ytcpijmlaglcblaa", sum := "731f633a7c11821cedebf0c20f25ca0997c42322a95f212b8dc83ea5edb82f6d", func := "warren/warrenlaw09.RanksDrains", spec := "ranksDrains", unfollowed := true, recurses := true, apart := false, narrowed := true }
def RanksDrainsUptoSaid : Prop := ranksDrainsUptoRow.holds Try.pinned (OpenSpec.upto ranksDrainsSpec)

/-- 'warrenlaw09.RanksReturns', WHERE WHAT IT READS IS OF BULK AT MOST 1048576: true; the input reads as it did. -/
def ranksReturnsUptoRow : OpenClaim := { program := "ytcpijmlaglcblaa", sum := "731f633a7c11821cedebf0c20f25ca0997c42322a95f212b8dc83ea5edb82f6d", func := "warren/warrenlaw09.RanksReturns", spec := "ranksReturns", unfollowed := true, recurses := true, apart := false, narrowed := true }
def RanksReturnsUptoSaid : Prop := ranksReturnsUptoRow.holds Try.pinned (OpenSpec.upto ranksReturnsSpec)

/-- 'warrenlaw09.RanksPlays', WHERE WHAT IT READS IS OF BULK AT MOST 1048576: true; the input reads as it did. -/
def ranksPlaysUptoRow : OpenClaim := { program := "ytcpijmlaglcblaa", sum := "731f633a7c11821cedebf0c20f25ca0997c42322a95f212b8dc83ea5edb82f6d", func := "warren/warrenlaw09.RanksPlays", spec := "ranksPlays", unfollowed := true, recurses := true, apart := false, narrowed := true }
def RanksPlaysUptoSaid : Prop := ranksPlaysUptoRow.holds Try.pinned (OpenSpec.upto ranksPlaysSpec)

end Rows
end Go.Proofs.Ytcpijmlaglcblaa
