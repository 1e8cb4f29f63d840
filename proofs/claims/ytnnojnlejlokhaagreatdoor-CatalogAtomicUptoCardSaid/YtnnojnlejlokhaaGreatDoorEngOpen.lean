/- An open run: what comes in is not known; what is left to be shown is handed on. No program. -/
import Derived.Test.YtnnojnlejlokhaaGreatDoorEngCode2
set_option linter.unusedVariables false
set_option linter.unusedSimpArgs false
namespace Go.Proofs.YtnnojnlejlokhaaGreatDoor.Eng
open Go Go.RowKit
noncomputable section
def Out.val : Out AV -> AV
 | .ok v _ _ _ _ => v
 | .bad _ => .any
def Out.heap {α : Type} : Out α -> T
 | .ok _ h _ _ _ => h
 | .bad _ => .nil
def Out.names {α : Type} : Out α -> Nat
 | .ok _ _ n _ _ => n
 | .bad _ => 0
def Out.why {α : Type} : Out α -> String
 | .ok .. => "ok"
 | .bad w => w
def envO (P : Program) (F : HP) (con : FuncId -> List AV -> Option (AP AV)) (claim : FuncId -> Nat -> Nat -> Option Hint) (lcon : FuncId -> Nat -> Option (Code × (List AV -> AP (AX × List AV)))) (W : World) : Env :=
 { W := W, F := F, strict := false, info := fun t => P.info? t, fn := fun f => P.funcs[f]?, wk := Wk, ow := OW, gd := ZZ', fc := L2' P, con := con, claim := claim, lcon := lcon, same := fun _ => false, clone := fun _ => false, laid := fun _ => none }
theorem g5' {P : Program} {F : HP} {con : FuncId -> List AV -> Option (AP AV)} {claim : FuncId -> Nat -> Nat -> Option Hint} {lcon : FuncId -> Nat -> Option (Code × (List AV -> AP (AX × List AV)))} {W : World} (hW : ∀ D w, F.on D w -> ∀ a v, W.cell? a = some v -> w.cell? a = some v) : EnvOk P (envO P F con claim lcon W) where
 wk := fun _ _ h => h
 ow := fun _ _ h => h
 gd := fun _ _ _ h => h
 fc := fun _ _ h => h
 info := fun _ _ h => h
 fn := fun _ _ h => h
 old := hW
 laid := fun D w' _ g vs h => by cases h
 same := fun f h => by cases h
 clone := fun f h => by cases h
end
end Go.Proofs.YtnnojnlejlokhaaGreatDoor.Eng
