/-
  No cell of these rows narrows 'for every input' (looked for: loops, veiled, ifaces, maps, wideKeys, modest, calm, conditions, laid).
  DERIVED. THE GIVEN ROWS OF THIS SEAT. 3 by the template 'for every input the law returns true; each argument reads behind the call as it read before'; 0 by the template 'total and deterministic' (their statements: YtojfbgmeaadanaaTotals.lean).
  GIVEN WITH THE SEED: the statements are not yours to turn. If you find one false, say at which input.
  Laid BY PROGRAM, IN A SANDBOX (cutbox-rows.mjs): the forced cells as the released guide's own fill.sh prints them over the translation 8e81c657a58cf09e… (all of the seat's roots in one cut). By AI agents, Wed Nov 11 2026. No macro, syntax, notation, axiom, sorry.
-/
import Derived.Test.YtojfbgmeaadanaaChecked
import GoSem.Claim
import GoSem.ClaimJoined
import GoSem.ClaimMapViews
import Derived.JoinedTies
import Derived.KernelRfl
namespace Go.Proofs.Ytojfbgmeaadanaa
/- THE CELL 'sum', in the pinned program and in every row, IS THE sha256 OF THE DUMP (.gsa) THAT YtojfbgmeaadanaaProg.lean LOADS. Nothing in Lean hashes anything: it is a label: what it is worth is what the hold of that sum in a sandbox is worth. -/
noncomputable def Try.pinned : Pinned := { name := "ytojfbgmeaadanaa", sum := "8e81c657a58cf09e05cd7403dc25f223a90e9fbb39e8cddfd2cb17c88455e045", checked := Try.checked }
namespace Rows
def none {H : Type} : Left H := { results := [], args := [] }

/-- 'warrenlaw10.AlarmsSplit': WHATEVER THE INPUT: true; the input reads as it did. -/
def alarmsSplitSpec : ChangeSpec := { name := "alarmsSplit", fn := fun _ => fun
  | [d1, d2, d3] => { results := [.lit (.bool true)], args := [d1, d2, d3] }
  | _ => none }
def alarmsSplitRow : OpenClaim := { program := "ytojfbgmeaadanaa", sum := "8e81c657a58cf09e05cd7403dc25f223a90e9fbb39e8cddfd2cb17c88455e045", func := "warren/warrenlaw10.AlarmsSplit", spec := "alarmsSplit", unfollowed := true, recurses := true, apart := false }
def AlarmsSplitSaid : Prop := alarmsSplitRow.holds Try.pinned (OpenSpec.ofChange alarmsSplitSpec)

/-- ITS FALSE NEIGHBOUR: 'it returns false'. Refute it at one input. -/
def alarmsSplitWrong : ChangeSpec := { name := "alarmsSplit", fn := fun _ => fun
  | [d1, d2, d3] => { results := [.lit (.bool false)], args := [d1, d2, d3] }
  | _ => none }
def AlarmsSplitWrongFalsely : Prop := alarmsSplitRow.holds Try.pinned (OpenSpec.ofChange alarmsSplitWrong)

/-- 'warrenlaw10.AlarmsOnce': WHATEVER THE INPUT: true; the input reads as it did. -/
def alarmsOnceSpec : ChangeSpec := { name := "alarmsOnce", fn := fun _ => fun
  | [d] => { results := [.lit (.bool true)], args := [d] }
  | _ => none }
def alarmsOnceRow : OpenClaim := { program := "ytojfbgmeaadanaa", sum := "8e81c657a58cf09e05cd7403dc25f223a90e9fbb39e8cddfd2cb17c88455e045", func := "warren/warrenlaw10.AlarmsOnce", spec := "alarmsOnce", unfollowed := true, recurses := true, apart := false }
def AlarmsOnceSaid : Prop := alarmsOnceRow.holds Try.pinned (OpenSpec.ofChange alarmsOnceSpec)

/-- ITS FALSE NEIGHBOUR: 'it returns false'. Refute it at one input. -/
def alarmsOnceWrong : ChangeSpec := { name := "alarmsOnce", fn := fun _ => fun
  | [d] => { results := [.lit (.bool false)], args := [d] }
  | _ => none }
def AlarmsOnceWrongFalsely : Prop := alarmsOnceRow.holds Try.pinned (OpenSpec.ofChange alarmsOnceWrong)

/-- 'warrenlaw10.AlarmsPlays': WHATEVER THE INPUT: true; the input reads as it did. -/
def alarmsPlaysSpec : ChangeSpec := { name := "alarmsPlays", fn := fun _ => fun
  | [d] => { results := [.lit (.bool true)], args := [d] }
  | _ => none }
def alarmsPlaysRow : OpenClaim := { program := "ytojfbgmeaadanaa", sum := "8e81c657a58cf09e05cd7403dc25f223a90e9fbb39e8cddfd2cb17c88455e045", func := "warren/warrenlaw10.AlarmsPlays", spec := "alarmsPlays", unfollowed := true, recurses := true, apart := false }
def AlarmsPlaysSaid : Prop := alarmsPlaysRow.holds Try.pinned (OpenSpec.ofChange alarmsPlaysSpec)

/-- ITS FALSE NEIGHBOUR: 'it returns false'. Refute it at one input. -/
def alarmsPlaysWrong : ChangeSpec := { name := "alarmsPlays", fn := fun _ => fun
  | [d] => { results := [.lit (.bool false)], args := [d] }
  | _ => none }
def AlarmsPlaysWrongFalsely : Prop := alarmsPlaysRow.holds Try.pinned (OpenSpec.ofChange alarmsPlaysWrong)

/- THE SECOND FORM. 'bulk': how many values and letters a reading holds, each counted each time it is reached (what is shared counts as often as it is met; a slice's spare places count too). A statement '..UptoSaid' is the law's where the arguments, and the package variables that the reading takes, are together of bulk at most 1048576: NARROWER than '..Said'. Prove '..Said' where nothing that the law and all that it calls make is longer than what came in: it says more and counts as full. Else prove '..UptoSaid'. A law counts once. -/
mutual
def uptoBulk {H : Type} : DataW H → Nat
  | .lit (.string bytes) => bytes.length + 1
  | .lit _ => 1
  | .nil => 1
  | .ptr d => uptoBulk d + 1
  | .slice elems spare => uptoBulkAll elems + uptoBulkAll spare + 1
  | .agg parts => uptoBulkAll parts + 1
  | .iface _ d => uptoBulk d + 1
  | .map entries => uptoBulkEntries entries + 1
  | .held _ => 1
def uptoBulkAll {H : Type} : List (DataW H) → Nat
  | [] => 0
  | d :: r => uptoBulk d + uptoBulkAll r
def uptoBulkEntries {H : Type} : List (Lit × DataW H) → Nat
  | [] => 0
  | x :: r => uptoBulkEntry x + uptoBulkEntries r
def uptoBulkEntry {H : Type} : Lit × DataW H → Nat
  | (.string bytes, d) => bytes.length + uptoBulk d + 1
  | (_, d) => uptoBulk d + 1
 end
def uptoSmall : (H : Type) → List (DataW H) → Bool := fun _ ds => decide (uptoBulkAll ds ≤ 1048576)
def OpenSpec.upto (s : _root_.Go.ChangeSpec) : _root_.Go.OpenSpec := { _root_.Go.OpenSpec.ofChange s with cond := some uptoSmall }

/-- 'warrenlaw10.AlarmsSplit', WHERE WHAT IT READS IS OF BULK AT MOST 1048576: true; the input reads as it did. -/
def alarmsSplitUptoRow : OpenClaim := { program := "ytojfbgmeaadanaa", sum := "8e81c657a58cf09e05cd7403dc25f223a90e9fbb39e8cddfd2cb17c88455e045", func := "warren/warrenlaw10.AlarmsSplit", spec := "alarmsSplit", unfollowed := true, recurses := true, apart := false, narrowed := true }
def AlarmsSplitUptoSaid : Prop := alarmsSplitUptoRow.holds Try.pinned (OpenSpec.upto alarmsSplitSpec)

/-- 'warrenlaw10.AlarmsOnce', WHERE WHAT IT READS IS OF BULK AT MOST 1048576: true; the input reads as it did. -/
def alarmsOnceUptoRow : OpenClaim := { program := "ytojfbgmeaadanaa", sum := "8e81c657a58cf09e05cd7403dc25f223a90e9fbb39e8cddfd2cb17c88455e045", func := "warren/warrenlaw10.AlarmsOnce", spec := "alarmsOnce", unfollowed := true, recurses := true, apart := false, narrowed := true }
def AlarmsOnceUptoSaid : Prop := alarmsOnceUptoRow.holds Try.pinned (OpenSpec.upto alarmsOnceSpec)

/-- 'warrenlaw10.AlarmsPlays', WHERE WHAT IT READS IS OF BULK AT MOST 1048576: true; the input reads as it did. -/
def alarmsPlaysUptoRow : OpenClaim := { program := "ytojfbgmeaadanaa", sum := "8e81c657a58cf09e05cd7403dc25f223a90e9fbb39e8cddfd2cb17c88455e045", func := "warren/warrenlaw10.AlarmsPlays", spec := "alarmsPlays", unfollowed := true, recurses := true, apart := false, narrowed := true }
def AlarmsPlaysUptoSaid : Prop := alarmsPlaysUptoRow.holds Try.pinned (OpenSpec.upto alarmsPlaysSpec)

end Rows
end Go.Proofs.Ytojfbgmeaadanaa
