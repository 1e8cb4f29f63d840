/- slices.Sorted(maps.Keys(m)) in the engine. No program. -/
import Derived.Test.YtdphpillcaajpaaDoorEngCode2
import Derived.Sort.KeysCollected
import Derived.Lib.SlKeysI
import Derived.Maps.Own
set_option linter.unusedVariables false
set_option linter.unusedSimpArgs false
namespace Go.Proofs.YtdphpillcaajpaaDoor.Eng
open Go Go.RowKit Go.Maps Go.MapKept
open Go.WideElems (Fit rd rg)
section
variable {α : Type} {le : α -> α -> Bool}
end
def TZ' (P : Program) (fS g : FuncId) (e : TypeId) : Prop :=
 ∀ (Bm b nn : Nat) (D0 : DataW Unit) (R : Value -> Option (DataW Unit × List MemPlace)) (w : World), Bm < w.heap.size -> w.cell? ⟨Bm, 0, none⟩ = some (.map (some b)) -> w.ownsMap P e R b nn D0 -> Maps.size D0 <= maxLen -> Maps.size D0 * 16 <= 140737488355328 ->
  Calls P fS #[.func (.func g) #[] #[.pointer (some ⟨Bm, 0, none⟩)]] w fun en w' => ∃ (v : Value) (ss : List Γ), en = .returned v /\ ss.Perm (strKeys D0) /\
   w'.ownsRow w.heap.size e 1 v ss.length ((ss.mergeSort (fun x y => decide (x <= y))).map encStr) /\ (v = .slice none 0 0 ↔ ss = []) /\ Below w.heap.size w w'
def U0' (P : Program) (fS g : FuncId) (e : TypeId) : Prop :=
 ∀ (Bm b nn : Nat) (D0 : DataW Unit) (R : Value -> Option (DataW Unit × List MemPlace)) (w : World), Bm < w.heap.size -> w.cell? ⟨Bm, 0, none⟩ = some (.map (some b)) -> w.ownsMap P e R b nn D0 -> Maps.size D0 <= maxLen -> Maps.size D0 * 8 <= 140737488355328 ->
  Calls P fS #[.func (.func g) #[] #[.pointer (some ⟨Bm, 0, none⟩)]] w fun en w' => ∃ (v : Value) (ss : List Int), en = .returned v /\ ss.Perm (intKeys D0) /\
   w'.ownsRow w.heap.size e 1 v ss.length ((ss.mergeSort (fun x y => decide (x <= y))).map encZ) /\ (v = .slice none 0 0 ↔ ss = []) /\ Below w.heap.size w w'
section
variable {P : Program} {E : Env} {W0 w : World} {N : A5'} {F : HP} {st : Bool} {h h' : T} {n n' : Nat} {lg lg' : Log} {c : Cnd}
theorem KS' {fS g : FuncId} {e : TypeId} (hu : P.underlying e = some .string) (hS : TZ' P fS g e) (r : Rep W0 N F h w) {i : Nat} {l : Loc} (hl : N i = some l) {a : AV} (hfr : BE' N n n') (he : (J1' e i).run st h n lg = .ok a h' n' lg' c) :
  Calls P fS #[.func (.func g) #[] #[.pointer (some ⟨l.blk, l.off + 0, none⟩)]] w (DF' W0 F N a h' n n') := by
 unfold J1' at he; cases he
theorem KT' {fS g : FuncId} {e : TypeId} (hu : P.underlying e = some (.int .i64)) (hS : U0' P fS g e) (r : Rep W0 N F h w) {i : Nat} {l : Loc} (hl : N i = some l) {a : AV} (hfr : BE' N n n') (he : (J2' e i).run st h n lg = .ok a h' n' lg' c) :
  Calls P fS #[.func (.func g) #[] #[.pointer (some ⟨l.blk, l.off + 0, none⟩)]] w (DF' W0 F N a h' n n') := by
 unfold J2' at he; cases he
end
end Go.Proofs.YtdphpillcaajpaaDoor.Eng
