/-
  NARROWER THAN 'FOR EVERY INPUT', by the rows' own cells (each row's printed sentence says how): QueueBack: loops · QueuePlaces: loops.
  DERIVED. THE GIVEN ROWS OF THIS SEAT. 3 by the template 'for every input the law returns true; each argument reads behind the call as it read before'; 0 by the template 'total and deterministic' (their statements: YtjjjchmkonnpfaaTotals.lean).
  GIVEN WITH THE SEED: the statements are not yours to turn. If you find one false, say at which input.
  Laid BY PROGRAM, IN A SANDBOX (cutbox-rows.mjs): the forced cells as the released guide's own fill.sh prints them over the translation c8f38ad09ef62651… (all of the seat's roots in one cut). By AI agents, Wed Nov 11 2026. No macro, syntax, notation, axiom, sorry.
-/
import Derived.Test.YtjjjchmkonnpfaaChecked
import GoSem.Claim
import GoSem.ClaimJoined
import GoSem.ClaimMapViews
import Derived.JoinedTies
import Derived.KernelRfl
namespace Go.Proofs.Ytjjjchmkonnpfaa
/- THE CELL 'sum', in the pinned program and in every row, IS THE sha256 OF THE DUMP (.gsa) THAT YtjjjchmkonnpfaaProg.lean LOADS. Nothing in Lean hashes anything: it is a label: what it is worth is what the hold of that sum in a sandbox is worth. -/
noncomputable def Try.pinned : Pinned := { name := "ytjjjchmkonnpfaa", sum := "c8f38ad09ef62651d64450b292c51c40cf5f2f7220e72e9378d9dc3da0f0c8bd", checked := Try.checked }
namespace Rows
def none {H : Type} : Left H := { results := [], args := [] }

/-- 'warrenlaw18.QueueFair': WHATEVER THE INPUT: true; the input reads as it did. -/
def queueFairSpec : ChangeSpec := { name := "queueFair", fn := fun _ => fun
  | [d1, d2] => { results := [.lit (.bool true)], args := [d1, d2] }
  | _ => none }
def queueFairRow : OpenClaim := { program := "ytjjjchmkonnpfaa", sum := "c8f38ad09ef62651d64450b292c51c40cf5f2f7220e72e9378d9dc3da0f0c8bd", func := "warren/warrenlaw18.QueueFair", spec := "queueFair", unfollowed := true, recurses := true, apart := false }
def QueueFairSaid : Prop := queueFairRow.holds Try.pinned (OpenSpec.ofChange queueFairSpec)

/-- ITS FALSE NEIGHBOUR: 'it returns false'. Refute it at one input. -/
def queueFairWrong : ChangeSpec := { name := "queueFair", fn := fun _ => fun
  | [d1, d2] => { results := [.lit (.bool false)], args := [d1, d2] }
  | _ => none }
def QueueFairWrongFalsely : Prop := queueFairRow.holds Try.pinned (OpenSpec.ofChange queueFairWrong)

/-- 'warrenlaw18.QueueBack': WHATEVER THE INPUT: true; the input reads as it did. -/
def queueBackSpec : ChangeSpec := { name := "queueBack", fn := fun _ => fun
  | [d1, d2] => { results := [.lit (.bool true)], args := [d1, d2] }
  | _ => none }
def queueBackRow : OpenClaim := { program := "ytjjjchmkonnpfaa", sum := "c8f38ad09ef62651d64450b292c51c40cf5f2f7220e72e9378d9dc3da0f0c8bd", func := "warren/warrenlaw18.QueueBack", spec := "queueBack", unfollowed := true, recurses := true, loops := true, apart := false }
def QueueBackSaid : Prop := queueBackRow.holds Try.pinned (OpenSpec.ofChange queueBackSpec)

/-- ITS FALSE NEIGHBOUR: 'it returns false'. Refute it at one input. -/
def queueBackWrong : ChangeSpec := { name := "queueBack", fn := fun _ => fun
  | [d1, d2] => { results := [.lit (.bool false)], args := [d1, d2] }
  | _ => none }
def QueueBackWrongFalsely : Prop := queueBackRow.holds Try.pinned (OpenSpec.ofChange queueBackWrong)

/-- 'warrenlaw18.QueuePlaces': WHATEVER THE INPUT: true; the input reads as it did. -/
def queuePlacesSpec : ChangeSpec := { name := "queuePlaces", fn := fun _ => fun
  | [d1, d2] => { results := [.lit (.bool true)], args := [d1, d2] }
  | _ => none }
def queuePlacesRow : OpenClaim := { program := "ytjjjchmkonnpfaa", sum := "c8f38ad09ef62651d64450b292c51c40cf5f2f7220e72e9378d9dc3da0f0c8bd", func := "warren/warrenlaw18.QueuePlaces", spec := "queuePlaces", unfollowed := true, recurses := true, loops := true, apart := false }
def QueuePlacesSaid : Prop := queuePlacesRow.holds Try.pinned (OpenSpec.ofChange queuePlacesSpec)

/-- ITS FALSE NEIGHBOUR: 'it returns false'. Refute it at one input. -/
def queuePlacesWrong : ChangeSpec := { name := "queuePlaces", fn := fun _ => fun
  | [d1, d2] => { results := [.lit (.bool false)], args := [d1, d2] }
  | _ => none }
def QueuePlacesWrongFalsely : Prop := queuePlacesRow.holds Try.pinned (OpenSpec.ofChange queuePlacesWrong)

/- THE SECOND FORM. 'bulk': how many values and letters a reading holds, each counted each time it is reached (what is shared counts as often as it is met; a slice's spare places count too). A statement '..UptoSaid' is the law's where the arguments, and the package variables that the reading takes, are together of bulk at most 1048576: NARROWER than '..Said'. Prove '..Said' where nothing that the law and all that it calls make is longer than what came in: it says more and counts as full. Else prove '..UptoSaid'. A law counts once. -/
mutual
def uptoBulk {H : Type} : DataW H → Nat
  | .lit (.string bytes) => bytes.length + 1
  | .lit _ => 1
  | .nil => 1
  | .ptr d => uptoBulk d + 1
  | .slice elems spare => uptoBulkAll elems + uptoBulkAll spare + 1
  | .agg parts => uptoBulkAll parts + 1
  | .iface _ d => uptoBulk d + 1
  | .map entries => uptoBulkEntries entries + 1
  | .held _ => 1
def uptoBulkAll {H : Type} : List (DataW H) → Nat
  | [] => 0
  | d :: r => uptoBulk d + uptoBulkAll r
def uptoBulkEntries {H : Type} : List (Lit × DataW H) → Nat
  | [] => 0
  | x :: r => uptoBulkEntry x + uptoBulkEntries r
def uptoBulkEntry {H : Type} : Lit × DataW H → Nat
  | (.string bytes, d) => bytes.length + uptoBulk d + 1
  | (_, d) => uptoBulk d + 1
 end
def uptoSmall : (H : Type) → List (DataW H) → Bool := fun _ ds => decide (uptoBulkAll ds ≤ 1048576)
def OpenSpec.upto (s : _root_.Go.ChangeSpec) : _root_.Go.OpenSpec := { _root_.Go.OpenSpec.ofChange s with cond := some uptoSmall }

/-- 'warrenlaw18.QueueFair', WHERE WHAT IT READS IS OF BULK AT MOST 1048576: true; the input reads as it did. -/
def queueFairUptoRow : OpenClaim := { program := "ytjjjchmkonnpfaa", sum := "c8f38ad09ef62651d64450b292c51c40cf5f2f7220e72e9378d9dc3da0f0c8bd", func := "warren/warrenlaw18.QueueFair", spec := "queueFair", unfollowed := true, recurses := true, apart := false, narrowed := true }
def QueueFairUptoSaid : Prop := queueFairUptoRow.holds Try.pinned (OpenSpec.upto queueFairSpec)

/-- 'warrenlaw18.QueueBack', WHERE WHAT IT READS IS OF BULK AT MOST 1048576: true; the input reads as it did. -/
def queueBackUptoRow : OpenClaim := { program := "ytjjjchmkonnpfaa", sum := "c8f38ad09ef62651d64450b292c51c40cf5f2f7220e72e9378d9dc3da0f0c8bd", func := "warren/warrenlaw18.QueueBack", spec := "queueBack", unfollowed := true, recurses := true, loops := true, apart := false, narrowed := true }
def QueueBackUptoSaid : Prop := queueBackUptoRow.holds Try.pinned (OpenSpec.upto queueBackSpec)

/-- 'warrenlaw18.QueuePlaces', WHERE WHAT IT READS IS OF BULK AT MOST 1048576: true; the input reads as it did. -/
def queuePlacesUptoRow : OpenClaim := { program := "ytjjjchmkonnpfaa", sum := "c8f38ad09ef62651d64450b292c51c40cf5f2f7220e72e9378d9dc3da0f0c8bd", func := "warren/warrenlaw18.QueuePlaces", spec := "queuePlaces", unfollowed := true, recurses := true, loops := true, apart := false, narrowed := true }
def QueuePlacesUptoSaid : Prop := queuePlacesUptoRow.holds Try.pinned (OpenSpec.upto queuePlacesSpec)

end Rows
end Go.Proofs.Ytjjjchmkonnpfaa
