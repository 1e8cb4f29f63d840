/-
  NARROWER THAN 'FOR EVERY INPUT', by the rows' own cells (each row's printed sentence says how): PolicyArgs: loops.
  DERIVED. THE GIVEN ROWS OF THIS SEAT. 6 by the template 'for every input the law returns true; each argument reads behind the call as it read before'; 0 by the template 'total and deterministic' (their statements: YtfledabgdcnkfaaTotals.lean).
  GIVEN WITH THE SEED: the statements are not yours to turn. If you find one false, say at which input.
  Laid BY PROGRAM, IN A SANDBOX (cutbox-rows.mjs): the forced cells as the released guide's own fill.sh prints them over the translation 38c5b14368f9971a… (all of the seat's roots in one cut). By AI agents, Wed Nov 11 2026. No macro, syntax, notation, axiom, sorry.
-/
import Derived.Test.YtfledabgdcnkfaaChecked
import GoSem.Claim
import GoSem.ClaimJoined
import GoSem.ClaimMapViews
import Derived.JoinedTies
import Derived.KernelRfl
namespace Go.Proofs.Ytfledabgdcnkfaa
/- THE CELL 'sum', in the pinned program and in every row, IS THE sha256 OF THE DUMP (.gsa) THAT YtfledabgdcnkfaaProg.lean LOADS. Nothing in Lean hashes anything: it is a label: what it is worth is what the hold of that sum in a sandbox is worth. -/
noncomputable def Try.pinned : Pinned := { name := "ytfledabgdcnkfaa", sum := "38c5b14368f9971a209e3af811025c34abaa7ec2545da817edc82586e2056e16", checked := Try.checked }
namespace Rows
def none {H : Type} : Left H := { results := [], args := [] }

/-- 'warrenlaw17.PolicyGlobs': WHATEVER THE INPUT: true; the input reads as it did. -/
def policyGlobsSpec : ChangeSpec := { name := "policyGlobs", fn := fun _ => fun
  | [d1, d2] => { results := [.lit (.bool true)], args := [d1, d2] }
  | _ => none }
def policyGlobsRow : OpenClaim := { program := "ytfledabgdcnkfaa", sum := "38c5b14368f9971a209e3af811025c34abaa7ec2545da817edc82586e2056e16", func := "warren/warrenlaw17.PolicyGlobs", spec := "policyGlobs", apart := false }
def PolicyGlobsSaid : Prop := policyGlobsRow.holds Try.pinned (OpenSpec.ofChange policyGlobsSpec)

/-- ITS FALSE NEIGHBOUR: 'it returns false'. Refute it at one input. -/
def policyGlobsWrong : ChangeSpec := { name := "policyGlobs", fn := fun _ => fun
  | [d1, d2] => { results := [.lit (.bool false)], args := [d1, d2] }
  | _ => none }
def PolicyGlobsWrongFalsely : Prop := policyGlobsRow.holds Try.pinned (OpenSpec.ofChange policyGlobsWrong)

/-- 'warrenlaw17.PolicyArgs': WHATEVER THE INPUT: true; the input reads as it did. -/
def policyArgsSpec : ChangeSpec := { name := "policyArgs", fn := fun _ => fun
  | [d] => { results := [.lit (.bool true)], args := [d] }
  | _ => none }
def policyArgsRow : OpenClaim := { program := "ytfledabgdcnkfaa", sum := "38c5b14368f9971a209e3af811025c34abaa7ec2545da817edc82586e2056e16", func := "warren/warrenlaw17.PolicyArgs", spec := "policyArgs", recurses := true, loops := true, apart := false }
def PolicyArgsSaid : Prop := policyArgsRow.holds Try.pinned (OpenSpec.ofChange policyArgsSpec)

/-- ITS FALSE NEIGHBOUR: 'it returns false'. Refute it at one input. -/
def policyArgsWrong : ChangeSpec := { name := "policyArgs", fn := fun _ => fun
  | [d] => { results := [.lit (.bool false)], args := [d] }
  | _ => none }
def PolicyArgsWrongFalsely : Prop := policyArgsRow.holds Try.pinned (OpenSpec.ofChange policyArgsWrong)

/-- 'warrenlaw17.PolicyPicks': WHATEVER THE INPUT: true; the input reads as it did. -/
def policyPicksSpec : ChangeSpec := { name := "policyPicks", fn := fun _ => fun
  | [d1, d2] => { results := [.lit (.bool true)], args := [d1, d2] }
  | _ => none }
def policyPicksRow : OpenClaim := { program := "ytfledabgdcnkfaa", sum := "38c5b14368f9971a209e3af811025c34abaa7ec2545da817edc82586e2056e16", func := "warren/warrenlaw17.PolicyPicks", spec := "policyPicks", apart := false }
def PolicyPicksSaid : Prop := policyPicksRow.holds Try.pinned (OpenSpec.ofChange policyPicksSpec)

/-- ITS FALSE NEIGHBOUR: 'it returns false'. Refute it at one input. -/
def policyPicksWrong : ChangeSpec := { name := "policyPicks", fn := fun _ => fun
  | [d1, d2] => { results := [.lit (.bool false)], args := [d1, d2] }
  | _ => none }
def PolicyPicksWrongFalsely : Prop := policyPicksRow.holds Try.pinned (OpenSpec.ofChange policyPicksWrong)

/-- 'warrenlaw17.PolicyMerges': WHATEVER THE INPUT: true; the input reads as it did. -/
def policyMergesSpec : ChangeSpec := { name := "policyMerges", fn := fun _ => fun
  | [d1, d2] => { results := [.lit (.bool true)], args := [d1, d2] }
  | _ => none }
def policyMergesRow : OpenClaim := { program := "ytfledabgdcnkfaa", sum := "38c5b14368f9971a209e3af811025c34abaa7ec2545da817edc82586e2056e16", func := "warren/warrenlaw17.PolicyMerges", spec := "policyMerges", apart := false }
def PolicyMergesSaid : Prop := policyMergesRow.holds Try.pinned (OpenSpec.ofChange policyMergesSpec)

/-- ITS FALSE NEIGHBOUR: 'it returns false'. Refute it at one input. -/
def policyMergesWrong : ChangeSpec := { name := "policyMerges", fn := fun _ => fun
  | [d1, d2] => { results := [.lit (.bool false)], args := [d1, d2] }
  | _ => none }
def PolicyMergesWrongFalsely : Prop := policyMergesRow.holds Try.pinned (OpenSpec.ofChange policyMergesWrong)

/-- 'warrenlaw17.PolicyMay': WHATEVER THE INPUT: true; the input reads as it did. -/
def policyMaySpec : ChangeSpec := { name := "policyMay", fn := fun _ => fun
  | [d1, d2] => { results := [.lit (.bool true)], args := [d1, d2] }
  | _ => none }
def policyMayRow : OpenClaim := { program := "ytfledabgdcnkfaa", sum := "38c5b14368f9971a209e3af811025c34abaa7ec2545da817edc82586e2056e16", func := "warren/warrenlaw17.PolicyMay", spec := "policyMay", apart := false }
def PolicyMaySaid : Prop := policyMayRow.holds Try.pinned (OpenSpec.ofChange policyMaySpec)

/-- ITS FALSE NEIGHBOUR: 'it returns false'. Refute it at one input. -/
def policyMayWrong : ChangeSpec := { name := "policyMay", fn := fun _ => fun
  | [d1, d2] => { results := [.lit (.bool false)], args := [d1, d2] }
  | _ => none }
def PolicyMayWrongFalsely : Prop := policyMayRow.holds Try.pinned (OpenSpec.ofChange policyMayWrong)

/-- 'warrenlaw17.PolicyWide': WHATEVER THE INPUT: true; the input reads as it did. -/
def policyWideSpec : ChangeSpec := { name := "policyWide", fn := fun _ => fun
  | [d1, d2] => { results := [.lit (.bool true)], args := [d1, d2] }
  | _ => none }
def policyWideRow : OpenClaim := { program := "ytfledabgdcnkfaa", sum := "38c5b14368f9971a209e3af811025c34abaa7ec2545da817edc82586e2056e16", func := "warren/warrenlaw17.PolicyWide", spec := "policyWide", apart := false }
def PolicyWideSaid : Prop := policyWideRow.holds Try.pinned (OpenSpec.ofChange policyWideSpec)

/-- ITS FALSE NEIGHBOUR: 'it returns false'. Refute it at one input. -/
def policyWideWrong : ChangeSpec := { name := "policyWide", fn := fun _ => fun
  | [d1, d2] => { results := [.lit (.bool false)], args := [d1, d2] }
  | _ => none }
def PolicyWideWrongFalsely : Prop := policyWideRow.holds Try.pinned (OpenSpec.ofChange policyWideWrong)

/- THE SECOND FORM. 'bulk': how many values and letters a reading holds, each counted each time it is reached (what is shared counts as often as it is met; a slice's spare places count too). A statement '..UptoSaid' is the law's where the arguments, and the package variables that the reading takes, are together of bulk at most 1048576: NARROWER than '..Said'. Prove '..Said' where nothing that the law and all that it calls make is longer than what came in: it says more and counts as full. Else prove '..UptoSaid'. A law counts once. -/
mutual
def uptoBulk {H : Type} : DataW H → Nat
  | .lit (.string bytes) => bytes.length + 1
  | .lit _ => 1
  | .nil => 1
  | .ptr d => uptoBulk d + 1
  | .slice elems spare => uptoBulkAll elems + uptoBulkAll spare + 1
  | .agg parts => uptoBulkAll parts + 1
  | .iface _ d => uptoBulk d + 1
  | .map entries => uptoBulkEntries entries + 1
  | .held _ => 1
def uptoBulkAll {H : Type} : List (DataW H) → Nat
  | [] => 0
  | d :: r => uptoBulk d + uptoBulkAll r
def uptoBulkEntries {H : Type} : List (Lit × DataW H) → Nat
  | [] => 0
  | x :: r => uptoBulkEntry x + uptoBulkEntries r
def uptoBulkEntry {H : Type} : Lit × DataW H → Nat
  | (.string bytes, d) => bytes.length + uptoBulk d + 1
  | (_, d) => uptoBulk d + 1
 end
def uptoSmall : (H : Type) → List (DataW H) → Bool := fun _ ds => decide (uptoBulkAll ds ≤ 1048576)
def OpenSpec.upto (s : _root_.Go.ChangeSpec) : _root_.Go.OpenSpec := { _root_.Go.OpenSpec.ofChange s with cond := some uptoSmall }

/-- 'warrenlaw17.PolicyGlobs', WHERE WHAT IT READS IS OF BULK AT MOST 1048576: true; the input reads as it did. -/
def policyGlobsUptoRow : OpenClaim := { program := "ytfledabgdcnkfaa", sum := "38c5b14368f9971a209e3af811025c34abaa7ec2545da817edc82586e2056e16", func := "warren/warrenlaw17.PolicyGlobs", spec := "policyGlobs", apart := false, narrowed := true }
def PolicyGlobsUptoSaid : Prop := policyGlobsUptoRow.holds Try.pinned (OpenSpec.upto policyGlobsSpec)

/-- 'warrenlaw17.PolicyArgs', WHERE WHAT IT READS IS OF BULK AT MOST 1048576: true; the input reads as it did. -/
def policyArgsUptoRow : OpenClaim := { program := "ytfledabgdcnkfaa", sum := "38c5b14368f9971a209e3af811025c34abaa7ec2545da817edc82586e2056e16", func := "warren/warrenlaw17.PolicyArgs", spec := "policyArgs", recurses := true, loops := true, apart := false, narrowed := true }
def PolicyArgsUptoSaid : Prop := policyArgsUptoRow.holds Try.pinned (OpenSpec.upto policyArgsSpec)

/-- 'warrenlaw17.PolicyPicks', WHERE WHAT IT READS IS OF BULK AT MOST 1048576: true; the input reads as it did. -/
def policyPicksUptoRow : OpenClaim := { program := "ytfledabgdcnkfaa", sum := "38c5b14368f9971a209e3af811025c34abaa7ec2545da817edc82586e2056e16", func := "warren/warrenlaw17.PolicyPicks", spec := "policyPicks", apart := false, narrowed := true }
def PolicyPicksUptoSaid : Prop := policyPicksUptoRow.holds Try.pinned (OpenSpec.upto policyPicksSpec)

/-- 'warrenlaw17.PolicyMerges', WHERE WHAT IT READS IS OF BULK AT MOST 1048576: true; the input reads as it did. -/
def policyMergesUptoRow : OpenClaim := { program := "ytfledabgdcnkfaa", sum := "38c5b14368f9971a209e3af811025c34abaa7ec2545da817edc82586e2056e16", func := "warren/warrenlaw17.PolicyMerges", spec := "policyMerges", apart := false, narrowed := true }
def PolicyMergesUptoSaid : Prop := policyMergesUptoRow.holds Try.pinned (OpenSpec.upto policyMergesSpec)

/-- 'warrenlaw17.PolicyMay', WHERE WHAT IT READS IS OF BULK AT MOST 1048576: true; the input reads as it did. -/
def policyMayUptoRow : OpenClaim := { program := "ytfledabgdcnkfaa", sum := "38c5b14368f9971a209e3af811025c34abaa7ec2545da817edc82586e2056e16", func := "warren/warrenlaw17.PolicyMay", spec := "policyMay", apart := false, narrowed := true }
def PolicyMayUptoSaid : Prop := policyMayUptoRow.holds Try.pinned (OpenSpec.upto policyMaySpec)

/-- 'warrenlaw17.PolicyWide', WHERE WHAT IT READS IS OF BULK AT MOST 1048576: true; the input reads as it did. -/
def policyWideUptoRow : OpenClaim := { program := "ytfledabgdcnkfaa", sum := "38c5b14368f9971a209e3af811025c34abaa7ec2545da817edc82586e2056e16", func := "warren/warrenlaw17.PolicyWide", spec := "policyWide", apart := false, narrowed := true }
def PolicyWideUptoSaid : Prop := policyWideUptoRow.holds Try.pinned (OpenSpec.upto policyWideSpec)

end Rows
end Go.Proofs.Ytfledabgdcnkfaa
