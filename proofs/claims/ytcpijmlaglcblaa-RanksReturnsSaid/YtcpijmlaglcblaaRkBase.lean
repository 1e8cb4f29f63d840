/- Items in line: cells, order, states. -/
import Derived.Test.YtcpijmlaglcblaaEngIMap
import Derived.Test.YtcpijmlaglcblaaProg
import Derived.KernelRfl
set_option linter.unusedVariables false
set_option linter.unusedSimpArgs false
namespace Go.Proofs.Ytcpijmlaglcblaa.Rk
open Go Go.RowKit Go.Proofs.Ytcpijmlaglcblaa.Eng
def enc (x : It) : List Value := [.int .i64 x.a, .int .i64 x.b, .int .i64 x.c]
def It.zero : It := ⟨0, 0, 0⟩
theorem enc_length (x : It) : (enc x).length = 3 := rfl
def itA (x : It) : AV := .agg (vmap (enc x))
def iv (n : Int) : AV := .v (.int .i64 n)
def ahead (x y : It) : Bool := decide (y.a < x.a) || (x.a == y.a && decide (x.b < y.b))
/-- The i-th item. -/
def at' (s : Ps) (i : Nat) : It := s.xs.getD i It.zero
noncomputable section
def env0 (con : List (FuncId × (List AV → Option (AP AV)))) (hints : ClaimT) (lc : List (FuncId × Nat × Code × (List AV → AP (AX × List AV)))) (F : HP) : Env := envO Try.prog F (conL con) hints (lconL lc) default
def oRun (con : List (FuncId × (List AV → Option (AP AV)))) (hints : ClaimT) (lc : List (FuncId × Nat × Code × (List AV → AP (AX × List AV)))) (f : FuncId) (A : List AV) (H : LH) (ks : List Nat) (F : HP) : VT AV := ((runCall Try.prog (env0 con hints lc F) 1000 f A).run2 (heapOf H) 1100 []).view ks
theorem mixed : Try.prog.follows .mixedOrders = true := by kernel_rfl
theorem tri_run {con : List (FuncId × (List AV → Option (AP AV)))} {hints : ClaimT} {lc : List (FuncId × Nat × Code × (List AV → AP (AX × List AV)))} {f : FuncId} {A : List AV} {H H' : LH} {v : AV} (ks : List Nat) (hH : namesLt 1100 H = true)
    (hcon : ∀ x ∈ con, ∀ F, C1OK Try.prog F x.1 x.2) (hl : ∀ x ∈ lc, ∀ F, L1OK Try.prog F x.2.2.1 x.2.2.2) (h : ∀ F, (oRun con hints lc f A H ks F).all fun u os _ => Fits ks [u] os [v] H') : Tri Try.prog default f A H v H' :=
  tri_of_run ks 1000 mixed hH (fun F _ => conL_ok rfl fun x hx => hcon x hx F) (fun F _ => lconL_ok rfl fun x hx => hl x hx F) fun F _ => h F
theorem none_ok {F : HP → FuncId × (List AV → Option (AP AV)) → Prop} : ∀ x ∈ ([] : List (FuncId × (List AV → Option (AP AV)))), ∀ G, F G x := fun x hx => by cases hx
abbrev tIt : TypeId := 2 * 27
abbrev tLine : TypeId := 2 * 50
/-- The parts of a pile. -/
def pL (s : Ps) : LH := [(0, .cells [.slice 1001 0 s.xs.length 3 (.lo (s.xs.length + s.g.length)), .map 1002] tLine), (1001, .cells (rowV enc (s.xs ++ s.g)) tIt), (1002, .map (mE iv s.m) s.ck)]
def pL0 : LH := [(0, .cells [.v (.slice none 0 0), .map 1002] tLine), (1002, .map [] 0)]
/-- A pile whole. -/
def pH (s : Ps) : Nat → Nat → HP := exHP (fun _ : Unit => True) (fun _ => pL s)
def pH0 : Nat → Nat → HP := exHP (fun _ : Unit => True) (fun _ => pL0)
def pO (s : Ps) : AO := .own (.pile s) (pH s)
def pO0 : AO := .own .pile0 pH0
def noHints : ClaimT := fun _ _ _ => none
/-- Hints, listed. -/
def hintL : List (FuncId × Nat × Nat × Hint) → ClaimT
  | [], _, _, _ => none
  | x :: l, f, r, o => match Nat.beq f x.1 && (Nat.beq r x.2.1 && Nat.beq o x.2.2.1) with
    | true => some x.2.2.2
    | false => hintL l f r o
def hv (v : AV) : Hint := ⟨some v, none, []⟩
def ho (k : Nat) (o : AO) : Hint := ⟨none, none, [(k, o)]⟩
end
end Go.Proofs.Ytcpijmlaglcblaa.Rk
